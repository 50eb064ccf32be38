/-
  CribShows: flush, jack, and the law.
-/
import Derived.Test.YtlkdblflibgfpaaCKb
namespace Go.Proofs.Ytlkdblflibgfpaa
open Go Go.GL

theorem five {l : List Int} (h : l.length = 5) : ∃ a b c d e, l = [a, b, c, d, e] := by
  match l, h with
  | [a, b, c, d, e], _ => exact ⟨a, b, c, d, e, rfl⟩

/-- The points of a flush. -/
def flv (a b c d e : Int) (k : Bool) : Int := if b % 4 = a % 4 ∧ c % 4 = a % 4 ∧ d % 4 = a % 4 then (if e % 4 = a % 4 then 5 else if k then 0 else 4) else 0
theorem flv_bd (a b c d e : Int) (k : Bool) : 0 ≤ flv a b c d e k ∧ flv a b c d e k ≤ 5 := by unfold flv; repeat' split <;> omega

theorem flush_p {a b c d e : Int} (k : Bool) (ha : Card a) (hb : Card b) (hc : Card c) (hd : Card d) (he : Card e) : crib_flush_m [a, b, c, d, e] k = some (flv a b c d e k) := by
  unfold Card at ha hb hc hd he
  have ta : Int.tmod a 4 = a % 4 := Int.tmod_eq_emod_of_nonneg (by omega)
  have tb : Int.tmod b 4 = b % 4 := Int.tmod_eq_emod_of_nonneg (by omega)
  have tc : Int.tmod c 4 = c % 4 := Int.tmod_eq_emod_of_nonneg (by omega)
  have td : Int.tmod d 4 = d % 4 := Int.tmod_eq_emod_of_nonneg (by omega)
  have te : Int.tmod e 4 = e % 4 := Int.tmod_eq_emod_of_nonneg (by omega)
  have st : ∀ (i : Nat) (x : Int), i < 3 → geti (cut [a, b, c, d, e] 1 4) (i : Int) = x → Int.tmod x 4 = x % 4 → crib_flush_L1 [a, b, c, d, e] (i : Int) = if x % 4 = a % 4 then some (.next ((i + 1 : Nat) : Int)) else some (.done (.ret 0)) := fun i x hi hx tx => by
    simp only [crib_flush_L1, crib_flush_J2, crib_flush_J3]
    have hcl : (cut [a, b, c, d, e] 1 4).length = 3 := rfl
    have hg0 : geti [a, b, c, d, e] 0 = a := rfl
    rw [hcl, if_pos (decide_eq_true (by omega)), asrt_pos (by omega), hx, hg0, ta, tx]
    by_cases q : x % 4 = a % 4
    · rw [if_neg (by simp [q]), if_pos q, w64_of (by omega)]; rfl
    · rw [if_pos (by simpa using q), if_neg q]
  have s0 := st 0 b (by omega) rfl tb
  have s1 := st 1 c (by omega) rfl tc
  have s2 := st 2 d (by omega) rfl td
  have lp : loop (crib_flush_L1 [a, b, c, d, e]) 0 = some (if b % 4 = a % 4 ∧ c % 4 = a % 4 ∧ d % 4 = a % 4 then .go () else .ret 0) := by
    by_cases q0 : b % 4 = a % 4
    · rw [if_pos q0] at s0
      refine loop_next' s0 ?_
      by_cases q1 : c % 4 = a % 4
      · rw [if_pos q1] at s1
        refine loop_next' s1 ?_
        by_cases q2 : d % 4 = a % 4
        · rw [if_pos q2] at s2
          refine loop_next' s2 (loop_done ?_)
          rw [if_pos ⟨q0, q1, q2⟩]
          rfl
        · rw [if_neg q2] at s2
          rw [if_neg (fun h => q2 h.2.2)]
          exact loop_done s2
      · rw [if_neg q1] at s1
        rw [if_neg (fun h => q1 h.2.1)]
        exact loop_done s1
    · rw [if_neg q0] at s0
      rw [if_neg (fun h => q0 h.1)]
      exact loop_done s0
  unfold crib_flush_m
  rw [asrt_pos (by simp), asrt_pos (by simp), lp, Option.bind_some]
  unfold flv
  by_cases q : b % 4 = a % 4 ∧ c % 4 = a % 4 ∧ d % 4 = a % 4
  · rw [if_pos q, if_pos q]
    simp only [crib_flush_K1, crib_flush_J1, crib_flush_J4]
    have h4 : geti [a, b, c, d, e] 4 = e := rfl
    have hg0 : geti [a, b, c, d, e] 0 = a := rfl
    rw [asrt_pos (by simp), h4, hg0, ta, te]
    by_cases q2 : e % 4 = a % 4
    · rw [if_pos (by simpa using q2), if_pos q2]
    · rw [if_neg (by simpa using q2), if_neg q2]
      cases k <;> rfl
  · rw [if_neg q, if_neg q]; rfl

theorem flush_r {a b c d e n : Int} (k : Bool) (ha : Card a) (hb : Card b) (hc : Card c) (hd : Card d) (he : Card e) (hn : 0 ≤ n ∧ n ≤ 4000000000000000000) : gameroomref_ShowOf_J12 [a, b, c, d, e] k n = gameroomref_ShowOf_J18 [a, b, c, d, e] (n + flv a b c d e k) := by
  unfold Card at ha hb hc hd he
  have ta : Int.tmod a 4 = a % 4 := Int.tmod_eq_emod_of_nonneg (by omega)
  have tb : Int.tmod b 4 = b % 4 := Int.tmod_eq_emod_of_nonneg (by omega)
  have tc : Int.tmod c 4 = c % 4 := Int.tmod_eq_emod_of_nonneg (by omega)
  have td : Int.tmod d 4 = d % 4 := Int.tmod_eq_emod_of_nonneg (by omega)
  have te : Int.tmod e 4 = e % 4 := Int.tmod_eq_emod_of_nonneg (by omega)
  unfold gameroomref_ShowOf_J12
  have g0 : geti [a, b, c, d, e] 0 = a := rfl
  have g1 : geti [a, b, c, d, e] 1 = b := rfl
  have g2 : geti [a, b, c, d, e] 2 = c := rfl
  have g3 : geti [a, b, c, d, e] 3 = d := rfl
  have g4 : geti [a, b, c, d, e] 4 = e := rfl
  have hl : ([a, b, c, d, e].length : Int) = 5 := rfl
  rw [hl, asrt_pos (by omega), asrt_pos (by omega), asrt_pos (by intro _; omega), asrt_pos (by intro _; omega), asrt_pos (by intro _; omega), asrt_pos (by intro _; omega), g0, g1, g2, g3, g4, ta, tb, tc, td, te]
  unfold flv
  by_cases q : b % 4 = a % 4 ∧ c % 4 = a % 4 ∧ d % 4 = a % 4
  · rw [if_pos (by simp only [Bool.and_eq_true, beq_iff_eq]; omega), if_pos q, asrt_pos (by omega), asrt_pos (by omega)]
    by_cases q2 : e % 4 = a % 4
    · rw [if_pos (by simp only [beq_iff_eq]; omega), if_pos q2, w64_of (by omega)]
    · rw [if_neg (by simp only [beq_iff_eq]; omega), if_neg q2]
      cases k
      · rw [if_pos (by decide), if_neg (by decide), w64_of (by omega)]
      · rw [if_neg (by decide), if_pos (by decide), Int.add_zero]
  · rw [if_neg (by simp only [Bool.and_eq_true, beq_iff_eq]; omega), if_neg q, Int.add_zero]

/-- A card is the jack of the start's suit. -/
def jk (e c : Int) : Bool := (pf c == 11) && (Int.tmod c 4 == Int.tmod e 4)

theorem jk_one {e c d : Int} (hc : Card c) (hd : Card d) (h1 : jk e c = true) (h2 : jk e d = true) : c = d := by
  unfold Card at hc hd
  unfold jk pf at h1 h2
  simp only [Bool.and_eq_true, beq_iff_eq] at h1 h2
  rw [Int.tmod_eq_emod_of_nonneg (by omega)] at h1 h2
  omega

theorem jack_any {q : List Int} {v : List Int} (hq : q.length ≤ 4) (hv : v.length = 5) (hc : ∀ x ∈ q, Card x) : slices_ContainsFunc_2_m q v = some (q.any (jk (geti v 4))) := by
  have h1 : ∀ x ∈ q, crib_jack_1_m x v = some (jk (geti v 4) x) := fun x hx => by
    unfold crib_jack_1_m jk
    rw [pip_p (hc x hx), Option.bind_some, asrt_pos (by intro _; omega)]
  unfold slices_ContainsFunc_2_m slices_IndexFunc_2_m
  rw [search_loop (l := q) (jk (geti v 4)) (fun i => Fl.ret (i : Int)) (Fl.go ()) ?_ ?_ ?_]
  · have hn := fidx_neg (jk (geti v 4)) q
    unfold fidx at hn
    cases hf : q.findIdx? (jk (geti v 4)) with
    | none =>
      rw [hf] at hn
      have : q.any (jk (geti v 4)) = false := by
        rw [Bool.eq_false_iff]
        intro h; have := hn.2 h; simp at this
      rw [this]; rfl
    | some i =>
      rw [hf] at hn
      have : q.any (jk (geti v 4)) = true := hn.1 (by simp)
      rw [this]
      simp [slices_IndexFunc_2_K1]
  · intro i x hx hp
    have hi := (List.getElem?_eq_some_iff.1 hx).1
    have hgx : geti q (i : Int) = x := geti_some hx
    have hm : x ∈ q := List.mem_of_getElem? hx
    simp only [slices_IndexFunc_2_L1, slices_IndexFunc_2_J2]
    rw [if_pos (decide_eq_true (by omega)), asrt_pos (by omega), hgx, h1 x hm, Option.bind_some, hp, if_pos rfl]
  · intro i x hx hp
    have hi := (List.getElem?_eq_some_iff.1 hx).1
    have hgx : geti q (i : Int) = x := geti_some hx
    have hm : x ∈ q := List.mem_of_getElem? hx
    simp only [slices_IndexFunc_2_L1, slices_IndexFunc_2_J2, slices_IndexFunc_2_J3]
    rw [if_pos (decide_eq_true (by omega)), asrt_pos (by omega), hgx, h1 x hm, Option.bind_some, hp, if_neg (by decide), w64_of (by omega)]
    first | done | rfl
  · simp only [slices_IndexFunc_2_L1]
    rw [if_neg (by simp)]

/-- The point of the jack. -/
def jkv (a b c d e : Int) : Int := if [a, b, c, d].any (jk e) then 1 else 0
theorem jkv_bd (a b c d e : Int) : 0 ≤ jkv a b c d e ∧ jkv a b c d e ≤ 1 := by unfold jkv; split <;> omega

theorem jack_p {a b c d e : Int} (x : Bool) (ha : Card a) (hb : Card b) (hc : Card c) (hd : Card d) : crib_jack_m [a, b, c, d, e] x = some (jkv a b c d e) := by
  unfold crib_jack_m
  have h4 : geti [a, b, c, d, e] 4 = e := rfl
  have hcut : cut [a, b, c, d, e] (0 : Int) (4 : Int) = [a, b, c, d] := rfl
  rw [asrt_pos (by simp), hcut, jack_any (by simp) rfl (fun x hx => by
    simp only [List.mem_cons, List.not_mem_nil, or_false] at hx
    rcases hx with rfl | rfl | rfl | rfl <;> assumption), h4, Option.bind_some]
  unfold jkv crib_jack_J1
  split <;> rfl

theorem jack_r {a b c d e n : Int} (ha : Card a) (hb : Card b) (hc : Card c) (hd : Card d) (hnd : [a, b, c, d, e].Nodup) (hn : 0 ≤ n ∧ n ≤ 4000000000000000000) : gameroomref_ShowOf_J18 [a, b, c, d, e] n = some (n + jkv a b c d e) := by
  have st : ∀ (i : Nat) (x m : Int), i < 4 → geti [a, b, c, d, e] (i : Int) = x → Card x → 0 ≤ m → m ≤ 4000000000000000100 → gameroomref_ShowOf_L7 [a, b, c, d, e] (m, (i : Int)) = some (.next (m + (if jk e x then 1 else 0), ((i + 1 : Nat) : Int))) := fun i x m hi hx hcx h0 h1 => by
    simp only [gameroomref_ShowOf_L7, gameroomref_ShowOf_J20, gameroomref_ShowOf_J21]
    have hl : ([a, b, c, d, e].length : Int) = 5 := rfl
    have h4 : geti [a, b, c, d, e] 4 = e := rfl
    rw [if_pos (decide_eq_true (by omega)), hl, asrt_pos (by omega), hx, pip_r hcx, Option.bind_some, asrt_pos (by intro _; omega), asrt_pos (by intro _; omega), h4]
    have : ((pf x == 11) && (Int.tmod x 4 == Int.tmod e 4)) = jk e x := rfl
    rw [this]
    by_cases q : jk e x = true
    · rw [if_pos q, if_pos q, w64_of (by omega), w64_of (by omega)]; rfl
    · rw [if_neg q, if_neg q, w64_of (by omega), Int.add_zero]; rfl
  have key : jkv a b c d e = (if jk e a then 1 else 0) + (if jk e b then 1 else 0) + (if jk e c then 1 else 0) + (if jk e d then 1 else 0) := by
    unfold jkv
    simp only [List.nodup_cons, List.mem_cons, List.not_mem_nil, or_false, not_or] at hnd
    have ab : jk e a = true → jk e b = true → False := fun h1 h2 => hnd.1.1 (jk_one ha hb h1 h2)
    have ac : jk e a = true → jk e c = true → False := fun h1 h2 => hnd.1.2.1 (jk_one ha hc h1 h2)
    have ad : jk e a = true → jk e d = true → False := fun h1 h2 => hnd.1.2.2.1 (jk_one ha hd h1 h2)
    have bc : jk e b = true → jk e c = true → False := fun h1 h2 => hnd.2.1.1 (jk_one hb hc h1 h2)
    have bd : jk e b = true → jk e d = true → False := fun h1 h2 => hnd.2.1.2.1 (jk_one hb hd h1 h2)
    have cd : jk e c = true → jk e d = true → False := fun h1 h2 => hnd.2.2.1.1 (jk_one hc hd h1 h2)
    simp only [List.any_cons, List.any_nil, Bool.or_false]
    cases h1 : jk e a <;> cases h2 : jk e b <;> cases h3 : jk e c <;> cases h4 : jk e d <;> first | rfl | exact (ab h1 h2).elim | exact (ac h1 h3).elim | exact (ad h1 h4).elim | exact (bc h2 h3).elim | exact (bd h2 h4).elim | exact (cd h3 h4).elim
  have b1 : ∀ x, (0 : Int) ≤ (if jk e x = true then 1 else 0) ∧ (if jk e x = true then (1 : Int) else 0) ≤ 1 := fun x => by split <;> omega
  have ba := b1 a
  have bb := b1 b
  have bc := b1 c
  have bd := b1 d
  unfold gameroomref_ShowOf_J18
  have lp : loop (gameroomref_ShowOf_L7 [a, b, c, d, e]) (n, 0) = some (n + jkv a b c d e) := by
    rw [key, ← Int.add_assoc, ← Int.add_assoc, ← Int.add_assoc]
    refine loop_next' (st 0 a n (by omega) rfl ha (by omega) (by omega)) (loop_next' (st 1 b _ (by omega) rfl hb (by omega) (by omega)) (loop_next' (st 2 c _ (by omega) rfl hc (by omega) (by omega)) (loop_next' (st 3 d _ (by omega) rfl hd (by omega) (by omega)) (loop_done ?_))))
    rfl
  rw [lp]; rfl

theorem show_both {l : List Int} (hl : l.length = 5) (hc : ∀ x ∈ l, Card x) (hn : l.Nodup) (k : Bool) : ∃ v : Int, 0 ≤ v ∧ v ≤ 20000000000000000 ∧ crib_show_m l k = some v ∧ gameroomref_ShowOf_m l k = some v := by
  obtain ⟨f, f0, f1, f2, f3⟩ := fifteens_both hl hc k
  obtain ⟨p, p0, p1, p2, p3⟩ := pairs_both hl hc k (n := f) ⟨f0, f1⟩
  obtain ⟨r, L, r1, r2⟩ := runs_p hl hc k
  obtain ⟨q0, q1, q2⟩ := runs_r hl hc r2 (n := f + p) (by omega)
  obtain ⟨a, b, c, d, e, rfl⟩ := five hl
  have ha : Card a := hc _ (by simp)
  have hb : Card b := hc _ (by simp)
  have hc' : Card c := hc _ (by simp)
  have hd : Card d := hc _ (by simp)
  have he : Card e := hc _ (by simp)
  have fb := flv_bd a b c d e k
  have jb := jkv_bd a b c d e
  refine ⟨f + p + r + flv a b c d e k + jkv a b c d e, by omega, by omega, ?_, ?_⟩
  · unfold crib_show_m crib_rules_m
    rw [Option.bind_some]
    simp only [crib_show_J2, crib_show_J3, crib_show_J4, crib_show_J5, crib_show_J6, crib_show_J7, crib_show_J8, crib_show_J9, crib_show_J10, crib_show_J11, crib_show_J1]
    rw [asrt_pos (by omega), f2, Option.bind_some, asrt_pos (by omega), p2, Option.bind_some, asrt_pos (by omega), r1, Option.bind_some, asrt_pos (by omega), flush_p k ha hb hc' hd he, Option.bind_some, asrt_pos (by omega), jack_p k ha hb hc' hd, Option.bind_some, Int.zero_add, w64_of (x := f) (by omega), w64_of (x := f + p) (by omega), w64_of (x := f + p + r) (by omega), w64_of (x := f + p + r + flv a b c d e k) (by omega), w64_of (by omega)]
  · unfold gameroomref_ShowOf_m
    rw [f3, Option.bind_some]
    simp only [gameroomref_ShowOf_K1, gameroomref_ShowOf_J1]
    rw [p3, Option.bind_some]
    simp only [gameroomref_ShowOf_K3, gameroomref_ShowOf_J7]
    rw [q2, Option.bind_some]
    simp only [gameroomref_ShowOf_K5]
    rw [flush_r k ha hb hc' hd he (by omega), jack_r ha hb hc' hd hn (by omega)]

theorem true_CribShows (hand : List Int) (start : Int) (k : Bool) (hl : hand.length ≤ 17592186043904) (_hy : ∀ y ∈ hand, inI y) (_hs : inI start) : gameroomlaw_CribShows_m hand start k = some true := by
  unfold gameroomlaw_CribShows_m gameroomlaw_ints_m
  rw [asrt_pos (by unfold bigN; omega), Option.bind_some, List.nil_append]
  unfold crib_Show_m
  by_cases h4 : hand.length = 4
  · rw [if_neg (by rw [h4]; decide)]
    unfold crib_Show_J1 slices_Clone_m slices_Clone_J1
    have hl5 : (hand ++ [start]).length = 5 := by rw [List.length_append, h4]; rfl
    rw [asrt_pos (by unfold bigN; omega), Option.bind_some, List.nil_append, asrt_pos (by unfold bigN; omega), check_p (by omega), Option.bind_some]
    by_cases hw : wrong (hand ++ [start]) = 0
    · obtain ⟨hc, hn⟩ := wrong_0 hw
      obtain ⟨v, v0, v1, v2, v3⟩ := show_both hl5 hc hn k
      rw [if_neg (by rw [hw]; decide)]
      unfold crib_Show_J2
      rw [v2, Option.bind_some, Option.bind_some, Option.bind_some, asrt_pos (by unfold bigN; omega), if_pos (by rw [h4]; decide), cards_r (by omega), Option.bind_some, hw]
      unfold gameroomlaw_CribShows_J1
      rw [if_neg (by decide)]
      unfold gameroomlaw_CribShows_J2
      rw [if_pos (show ((0 : Int) == 0) = true by decide), v3, Option.bind_some]
      simp
    · rw [if_pos (by simpa using hw), Option.bind_some, Option.bind_some, asrt_pos (by unfold bigN; omega), if_pos (by rw [h4]; decide), cards_r (by omega), Option.bind_some]
      unfold gameroomlaw_CribShows_J1
      rw [if_pos (by simpa using hw)]
      simp
  · rw [if_pos (by simp; omega), Option.bind_some, Option.bind_some, asrt_pos (by unfold bigN; omega), if_neg (by simp; omega)]
    rfl
end Go.Proofs.Ytlkdblflibgfpaa
