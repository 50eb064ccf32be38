/-
  Discs on three pegs: rings around a state, as the document goes through them.
-/
import Derived.Test.YtbmhcapeikebgaaHWb
namespace Go.Proofs.Ytbmhcapeikebgaa
open Go Go.GL Go.HW

theorem num_drop {s : List Int} {k : Nat} (hk : k < s.length) : num (s.drop k) = (st s k).toNat + 3 * num (s.drop (k + 1)) := by
  rw [List.drop_eq_getElem_cons hk]
  have := get_geti hk
  rw [List.getElem?_eq_getElem hk] at this
  have e := Option.some.inj this
  show (s[k]).toNat + 3 * num (s.drop (k + 1)) = _
  rw [e]

theorem pow6 {n : Nat} (h : n ≤ 6) : 3 ^ n ≤ 729 := Nat.le_trans (Nat.pow_le_pow_right (by omega) h) (by decide)

theorem num_bd {s : List Int} (h : okD s) (h6 : s.length ≤ 6) (k : Nat) : num (s.drop k) < 729 := by
  have h1 := num_lt (s.drop k) (fun x hx => h.2 x (List.mem_of_mem_drop hx))
  have h2 : 3 ^ (s.drop k).length ≤ 729 := pow6 (by rw [List.length_drop]; omega)
  omega

theorem discNumber_p {s : List Int} (h : okD s) (h6 : s.length ≤ 6) : gameroomref_discNumber_m s = some (num s : Int) := by
  unfold gameroomref_discNumber_m
  have key := loop_from (step := gameroomref_discNumber_L1 s) (s0 := (0, (s.length : Int) - 1)) (r := (num s : Int)) (fun k => ((num (s.drop (s.length - k)) : Int), (s.length : Int) - 1 - k)) s.length (by
    rw [Nat.sub_zero, List.drop_length]; simp [num]) (by
    intro k hk
    obtain ⟨m, hm⟩ : ∃ m, s.length - k = m + 1 := ⟨s.length - k - 1, by omega⟩
    have hi : (s.length : Int) - 1 - (k : Int) = (m : Int) := by omega
    have hml : m < s.length := by omega
    have hb := num_bd h h6 (m + 1)
    have hp := pg_bd (h.at_ hml)
    rw [hm, hi]
    have e1 : ∀ x : Int, gameroomref_discNumber_L1 s (x, (m : Int)) = gameroomref_discNumber_J2 s x m := fun x => by
      simp only [gameroomref_discNumber_L1]
      rw [if_pos (decide_eq_true (by omega))]
    rw [e1]
    unfold gameroomref_discNumber_J2 gameroomref_discNumber_J3
    rw [asrt_pos (by omega), w64_of (x := 3 * (num (s.drop (m + 1)) : Int)) (by omega), w64_of (x := (m : Int) - 1) (by omega), w64_of (by show _ ≤ _ + st s m ∧ _ + st s m ≤ _; omega), show s.length - (k + 1) = m by omega, num_drop hml]
    congr 3
    · show 3 * (num (s.drop (m + 1)) : Int) + st s m = _
      omega
    · omega) (by
    rw [Nat.sub_self, List.drop_zero]
    simp only [gameroomref_discNumber_L1]
    rw [if_neg (by simp; omega)])
  rw [w64_of (by omega), key]; rfl

theorem nodup_len : ∀ (n : Nat) (l : List Nat), l.Nodup → (∀ x ∈ l, x < n) → l.length ≤ n
  | 0, [], _, _ => Nat.le_refl 0
  | 0, x :: l, _, h => absurd (h x (by simp)) (by omega)
  | n + 1, l, hn, h => by
    by_cases q : n ∈ l
    · have ih := nodup_len n (l.erase n) (hn.erase n) (fun x hx => by
        have h1 := (hn.mem_erase_iff).1 hx
        have := h x h1.2
        omega)
      rw [List.length_erase_of_mem q] at ih
      omega
    · have ih := nodup_len n l hn (fun x hx => by
        have := h x hx
        have : x ≠ n := fun e => q (by rw [← e]; exact hx)
        omega)
      omega

section
variable {s : List Int} (hs : okD s) (h6 : s.length ≤ 6)

/-- States of so many discs. -/
def okS (n : Nat) (x : List Int) : Prop := okD x ∧ x.length = n
/-- What is known of how far states are. -/
def FM (s : List Int) (far : List Int) (L : List (List Int)) : Prop := far.length = 3 ^ s.length ∧ ∀ z, okS s.length z → (z ∈ L → geti far (num z : Int) = (D (st s) (st z) s.length : Int)) ∧ (¬ z ∈ L → geti far (num z : Int) = -1)
abbrev BIs (s : List Int) (L : List (List Int)) (i : Nat) : Prop := BI (fun u x => E s.length (st u) (st x)) (okS s.length) (fun x => D (st s) (st x) s.length) s L i

include hs h6

omit hs h6 in
theorem bz : D (st s) (st s) s.length = 0 := D_self _ _
omit h6 in
theorem blip (u x : List Int) (hu : okS s.length u) (hx : okS s.length x) (h : E s.length (st u) (st x)) : D (st s) (st x) s.length ≤ D (st s) (st u) s.length + 1 :=
  D_lip s.length hs.v (by have := hu.1.v; rwa [hu.2] at this) (by have := hx.1.v; rwa [hx.2] at this) h
omit h6 in
theorem bdesc (x : List Int) (hx : okS s.length x) (hne : x ≠ s) : ∃ y, okS s.length y ∧ E s.length (st y) (st x) ∧ D (st s) (st y) s.length + 1 = D (st s) (st x) s.length := by
  have hxv : V s.length (st x) := by have := hx.1.v; rwa [hx.2] at this
  have hd : ∃ i, i < s.length ∧ st s i ≠ st x i := Classical.byContradiction fun h => hne (ext_geti hx.2 (fun i hi => Classical.byContradiction fun h2 => h ⟨i, by rw [← hx.2]; exact hi, fun e => h2 e.symm⟩))
  obtain ⟨τ, t1, t2, t3, t4⟩ := D_desc s.length hs.v hxv hd
  have gm : ∀ i, i < s.length → st (mr s.length τ) i = τ i := fun i hi => mr_geti hi
  refine ⟨mr s.length τ, ⟨⟨by rw [mr_length]; exact hs.1, fun y hy => ?_⟩, mr_length _ _⟩, ?_, ?_⟩
  · obtain ⟨i, hi⟩ := List.mem_iff_getElem?.1 hy
    have hlt := (List.getElem?_eq_some_iff.1 hi).1
    rw [mr_length] at hlt
    rw [mr_get hlt] at hi
    rw [← Option.some.inj hi]
    exact t1 i hlt
  · obtain ⟨d, d1, d2, d3, d4⟩ := t2.symm
    refine ⟨d, d1, by rw [gm d d1]; exact d2, fun i hi => ?_, fun i hi hin => ?_⟩
    · rw [gm d d1, gm i (by omega)]; exact d3 i hi
    · rw [gm i hin]; exact d4 i hi hin
  · rw [D_congr s.length gm]; exact t4

omit h6 in
theorem bput {L : List (List Int)} {i : Nat} {u x : List Int} (hB : BIs s L i) (hu : L[i]? = some u) (hx : okS s.length x) (ha : E s.length (st u) (st x)) (hn : ¬ x ∈ L) : D (st s) (st x) s.length = D (st s) (st u) s.length + 1 ∧ BIs s (L ++ [x]) i :=
  BI.put (adj := fun (u x : List Int) => E s.length (st u) (st x)) (ok := okS s.length) (d := fun (x : List Int) => D (st s) (st x) s.length) (s := s) bz (blip hs) (bdesc hs) hB hu hx ha hn
omit h6 in
theorem bstart : BIs s [s] 0 := BI.start (adj := fun (u x : List Int) => E s.length (st u) (st x)) (ok := okS s.length) (d := fun (x : List Int) => D (st s) (st x) s.length) (s := s) ⟨hs, rfl⟩
omit h6 in
theorem bfin {L : List (List Int)} (hB : BIs s L L.length) {x : List Int} (hx : okS s.length x) : x ∈ L :=
  BI.fin (adj := fun (u x : List Int) => E s.length (st u) (st x)) (ok := okS s.length) (d := fun (x : List Int) => D (st s) (st x) s.length) (s := s) bz (bdesc hs) hB _ x hx rfl

/-- A step of the innermost loop. -/
theorem inner_p {far : List Int} {L : List (List Int)} {i : Nat} {u : List Int} {a b : Nat} (hB : BIs s L i) (hF : FM s far L) (hu : L[i]? = some u) (ha : a < 3) (hb : b < 3) :
    ∃ far' L', gameroomref_DiscsFar_J12 ((3 ^ s.length : Nat) : Int) i a far L b = some (.next (far', L', ((b + 1 : Nat) : Int))) ∧ BIs s L' i ∧ FM s far' L' ∧ L'[i]? = some u ∧ (∀ x ∈ L, x ∈ L') ∧
      ∀ x, (a : Int) ≠ (b : Int) → mvOf u a b = (x, 0) → x ∈ L' := by
  have p3 := pow6 h6
  have hi := (List.getElem?_eq_some_iff.1 hu).1
  have hum : u ∈ L := List.mem_of_getElem? hu
  have huo := hB.all u hum
  have pa : pg (a : Int) := by unfold pg; omega
  have pb : pg (b : Int) := by unfold pg; omega
  have hgu : geti2 L (i : Int) = u := by
    unfold geti2
    rw [Int.toNat_natCast, List.getD_eq_getElem?_getD, hu]; rfl
  have hLl : L.length ≤ 729 := by
    -- states that differ have numbers that differ
    have hn : (L.map num).Nodup := by
      rw [List.nodup_iff_pairwise_ne, List.pairwise_map]
      exact (List.Pairwise.and_mem.1 hB.nodup).imp (fun {x y} h e => h.2.2 (num_inj x y (hB.all x h.1).1.2 (hB.all y h.2.1).1.2 ((hB.all x h.1).2.trans (hB.all y h.2.1).2.symm) e))
    have hsub : ∀ k ∈ L.map num, k < 729 := fun k hk => by
      obtain ⟨x, hx, rfl⟩ := List.mem_map.1 hk
      have := num_bd (hB.all x hx).1 (by rw [(hB.all x hx).2]; exact h6) 0
      rwa [List.drop_zero] at this
    have := nodup_len 729 _ hn hsub
    rwa [List.length_map] at this
  have hst : gameroomref_DiscsFar_J13 (b : Int) far L = some (.next (far, L, ((b + 1 : Nat) : Int))) := by unfold gameroomref_DiscsFar_J13; rw [w64_of (by omega)]; rfl
  unfold gameroomref_DiscsFar_J12
  rw [asrt_pos (by omega), hgu]
  have bad : ∀ q : List Int × Int, q.2 ≠ 0 → (∀ x, (a : Int) ≠ (b : Int) → mvOf u a b = (x, 0) → False) →
      ∃ far' L', (((if (q.2 == 0) then gameroomref_discNumber_m q.1 else some 0)).bind fun r4 => asrt ((q.2 == 0) = true → 0 ≤ r4 ∧ r4 < (((Int.toNat ((3 ^ s.length : Nat) : Int)) : Nat) : Int)) <| if ((q.2 == 0) && (decide ((geti far r4) < 0))) then (asrt (0 ≤ (i : Int) ∧ (i : Int) < (L.length : Int)) <| (gameroomref_discNumber_m q.1).bind fun r5 => (gameroomref_discNumber_m u).bind fun r6 => asrt (0 ≤ r6 ∧ r6 < (((Int.toNat ((3 ^ s.length : Nat) : Int)) : Nat) : Int)) <| asrt (0 ≤ r5 ∧ r5 < (((Int.toNat ((3 ^ s.length : Nat) : Int)) : Nat) : Int)) <| (gameroomref_DiscsFar_J14 L b q) (far.set (Int.toNat r5) (w64 ((geti far r6) + 1)))) else ((gameroomref_DiscsFar_J13 b) far L)) = some (.next (far', L', ((b + 1 : Nat) : Int))) ∧ BIs s L' i ∧ FM s far' L' ∧ L'[i]? = some u ∧ (∀ x ∈ L, x ∈ L') ∧ ∀ x, (a : Int) ≠ (b : Int) → mvOf u a b = (x, 0) → x ∈ L' := by
    intro q hq hno
    have hq0 : (q.2 == 0) = false := by rw [beq_eq_false_iff_ne]; exact hq
    rw [hq0, if_neg (by decide), Option.bind_some, asrt_pos (by intro z; cases z), if_neg (by simp)]
    exact ⟨far, L, hst, hB, hF, hu, fun x hx => hx, fun x h1 h2 => (hno x h1 h2).elim⟩
  by_cases hab : (a : Int) = (b : Int)
  · rw [show gameroomref_DiscMove_m u (a : Int) (b : Int) 0 = some ([], 5) by rw [← hab]; exact DiscMove_same pa, Option.bind_some]
    exact bad ([], 5) (by decide) (fun x h1 _ => h1 hab)
  · rw [DiscMove_p (by rw [huo.2]; omega) pa pb hab, Option.bind_some]
    by_cases hq : (mvOf u a b).2 ≠ 0
    · exact bad _ hq (fun x _ h2 => hq (by rw [h2]))
    · have hq' : (mvOf u a b).2 = 0 := Decidable.not_not.1 hq
      obtain ⟨x, hx⟩ : ∃ x, mvOf u a b = (x, 0) := ⟨(mvOf u a b).1, by rw [← hq']⟩
      obtain ⟨x1, x2, x3⟩ := mvOf_E huo.1 pa pb hab hx
      have hxo : okS s.length x := ⟨x2, x1.trans huo.2⟩
      have hxl : x.length ≤ 6 := by rw [hxo.2]; exact h6
      have hul : u.length ≤ 6 := by rw [huo.2]; exact h6
      rw [huo.2] at x3
      have nx := num_lt x x2.2
      have nu := num_lt u huo.1.2
      rw [hxo.2] at nx
      rw [huo.2] at nu
      obtain ⟨f1, f2⟩ := hF
      rw [hx]
      dsimp only
      rw [if_pos (by decide), discNumber_p x2 hxl, Option.bind_some, Int.toNat_natCast, asrt_pos (by intro _; omega)]
      by_cases hm : x ∈ L
      · rw [if_neg (by rw [(f2 x hxo).1 hm]; simp)]
        exact ⟨far, L, hst, hB, ⟨f1, f2⟩, hu, fun y hy => hy, fun y _ h2 => by cases h2; exact hm⟩
      · have hgx := (f2 x hxo).2 hm
        have hgu2 := (f2 u huo).1 hum
        obtain ⟨hd, hB2⟩ := bput hs hB hu hxo x3 hm
        have hnx : x ∉ L := hm
        rw [if_pos (by rw [hgx]; decide), asrt_pos (by omega), Option.bind_some, discNumber_p huo.1 hul, Option.bind_some, asrt_pos (by omega), asrt_pos (by omega), Int.toNat_natCast, hgu2]
        unfold gameroomref_DiscsFar_J14
        have hdb : D (st s) (st u) s.length < 729 * 729 := by
          have h1 := hs.1
          have : ∀ n, n ≤ 6 → D (st s) (st u) n ≤ 1000 := by
            intro n
            induction n with
            | zero => intro _; simp [D]
            | succ n ih =>
              intro hn
              have g1 := G_le (σ := st s) n (3 - st s n - st u n)
              have g2 := G_le (σ := st u) n (3 - st s n - st u n)
              have sp := mn2_spec (G (st s) n (3 - st s n - st u n) + 1 + G (st u) n (3 - st s n - st u n)) (G (st s) n (st u n) + 2 ^ n + 1 + G (st u) n (st s n))
              have h2 : 2 ^ n ≤ 64 := Nat.le_trans (Nat.pow_le_pow_right (by omega) (show n ≤ 6 by omega)) (by decide)
              have ih := ih (by omega)
              unfold D
              split <;> omega
          have := this s.length h6
          omega
        rw [asrt_pos (by unfold bigR; omega)]
        unfold gameroomref_DiscsFar_J13
        rw [w64_of (x := (b : Int) + 1) (by omega), w64_of (by omega)]
        refine ⟨_, _, rfl, hB2, ⟨by rw [List.length_set, f1], fun z hz => ?_⟩, by rw [List.getElem?_append_left hi]; exact hu, fun y hy => List.mem_append_left _ hy, fun y _ h2 => by cases h2; simp⟩
        have nz := num_lt z hz.1.2
        rw [hz.2] at nz
        rw [geti_set' (by omega) (by omega)]
        by_cases e : z = x
        · subst e
          rw [if_pos rfl]
          refine ⟨fun _ => by rw [hd]; omega, fun h => absurd (by simp) h⟩
        · have hne : (num z : Int) ≠ (num x : Int) := fun h => e (num_inj z x hz.1.2 x2.2 (hz.2.trans hxo.2.symm) (by omega))
          rw [if_neg hne]
          refine ⟨fun h => (f2 z hz).1 ?_, fun h => (f2 z hz).2 (fun h2 => h (List.mem_append_left _ h2))⟩
          rcases List.mem_append.1 h with q | q
          · exact q
          · simp at q; exact absurd q e

theorem mid_p {far : List Int} {L : List (List Int)} {i : Nat} {u : List Int} {a : Nat} (hB : BIs s L i) (hF : FM s far L) (hu : L[i]? = some u) (ha : a < 3) :
    ∃ far' L', gameroomref_DiscsFar_J10 ((3 ^ s.length : Nat) : Int) i far L a = some (.next (far', L', ((a + 1 : Nat) : Int))) ∧ BIs s L' i ∧ FM s far' L' ∧ L'[i]? = some u ∧ (∀ x ∈ L, x ∈ L') ∧
      ∀ (b : Nat) (x : List Int), b < 3 → (a : Int) ≠ (b : Int) → mvOf u a b = (x, 0) → x ∈ L' := by
  have key := count_loop (step := gameroomref_DiscsFar_L5 ((3 ^ s.length : Nat) : Int) i a) (fun (q : List Int × List (List Int)) (b : Nat) => (q.1, q.2, (b : Int)))
    (fun b q => BIs s q.2 i ∧ FM s q.1 q.2 ∧ q.2[i]? = some u ∧ (∀ x ∈ L, x ∈ q.2) ∧ ∀ (b' : Nat) (x : List Int), b' < b → (a : Int) ≠ (b' : Int) → mvOf u a b' = (x, 0) → x ∈ q.2)
    (fun q => BIs s q.2 i ∧ FM s q.1 q.2 ∧ q.2[i]? = some u ∧ (∀ x ∈ L, x ∈ q.2) ∧ ∀ (b' : Nat) (x : List Int), b' < 3 → (a : Int) ≠ (b' : Int) → mvOf u a b' = (x, 0) → x ∈ q.2) 3 (far, L) ⟨hB, hF, hu, fun x hx => hx, fun b' x h => by omega⟩ (by
    rintro b ⟨f, M⟩ hb ⟨i1, i2, i3, i4, i5⟩
    left
    obtain ⟨f', M', h1, h2, h3, h4, h5, h6'⟩ := inner_p hs h6 i1 i2 i3 ha hb
    refine ⟨(f', M'), ?_, h2, h3, h4, fun x hx => h5 x (i4 x hx), fun b' x hb' hne hmv => ?_⟩
    · simp only [gameroomref_DiscsFar_L5]
      rw [if_pos (decide_eq_true (by omega))]
      exact h1
    · by_cases e : b' = b
      · subst e; exact h6' x hne hmv
      · exact h5 x (i5 b' x (by omega) hne hmv)) (by
    rintro ⟨f, M⟩ hI
    exact ⟨(f, M), by simp only [gameroomref_DiscsFar_L5]; rw [if_neg (by decide)], hI⟩)
  obtain ⟨⟨f, M⟩, hx, h1, h2, h3, h4, h5⟩ := key
  have hx' : loop (gameroomref_DiscsFar_L5 ((3 ^ s.length : Nat) : Int) i a) (far, L, 0) = some (f, M) := hx
  unfold gameroomref_DiscsFar_J10
  rw [hx', Option.bind_some]
  simp only [gameroomref_DiscsFar_K5]
  unfold gameroomref_DiscsFar_J11
  rw [w64_of (by omega)]
  exact ⟨f, M, rfl, h1, h2, h3, h4, h5⟩

theorem outer_p {far : List Int} {L : List (List Int)} {i : Nat} {u : List Int} (hB : BIs s L i) (hF : FM s far L) (hu : L[i]? = some u) (hi7 : i < 729) :
    ∃ far' L', gameroomref_DiscsFar_J8 ((3 ^ s.length : Nat) : Int) far L i = some (.next (far', L', ((i + 1 : Nat) : Int))) ∧ BIs s L' (i + 1) ∧ FM s far' L' ∧ L'[i]? = some u := by
  have key := count_loop (step := gameroomref_DiscsFar_L4 ((3 ^ s.length : Nat) : Int) i) (fun (q : List Int × List (List Int)) (a : Nat) => (q.1, q.2, (a : Int)))
    (fun a q => BIs s q.2 i ∧ FM s q.1 q.2 ∧ q.2[i]? = some u ∧ ∀ (a' b' : Nat) (x : List Int), a' < a → b' < 3 → (a' : Int) ≠ (b' : Int) → mvOf u a' b' = (x, 0) → x ∈ q.2)
    (fun q => BIs s q.2 i ∧ FM s q.1 q.2 ∧ q.2[i]? = some u ∧ ∀ (a' b' : Nat) (x : List Int), a' < 3 → b' < 3 → (a' : Int) ≠ (b' : Int) → mvOf u a' b' = (x, 0) → x ∈ q.2) 3 (far, L) ⟨hB, hF, hu, fun a' b' x h => by omega⟩ (by
    rintro a ⟨f, M⟩ ha ⟨i1, i2, i3, i5⟩
    left
    obtain ⟨f', M', h1, h2, h3, h4, h5, h6'⟩ := mid_p hs h6 i1 i2 i3 ha
    refine ⟨(f', M'), ?_, h2, h3, h4, fun a' b' x ha' hb' hne hmv => ?_⟩
    · simp only [gameroomref_DiscsFar_L4]
      rw [if_pos (decide_eq_true (by omega))]
      exact h1
    · by_cases e : a' = a
      · subst e; exact h6' b' x hb' hne hmv
      · exact h5 x (i5 a' b' x (by omega) hb' hne hmv)) (by
    rintro ⟨f, M⟩ hI
    exact ⟨(f, M), by simp only [gameroomref_DiscsFar_L4]; rw [if_neg (by decide)], hI⟩)
  obtain ⟨⟨f, M⟩, hx, h1, h2, h3, h5⟩ := key
  have hx' : loop (gameroomref_DiscsFar_L4 ((3 ^ s.length : Nat) : Int) i) (far, L, 0) = some (f, M) := hx
  unfold gameroomref_DiscsFar_J8
  rw [hx', Option.bind_some]
  simp only [gameroomref_DiscsFar_K4]
  unfold gameroomref_DiscsFar_J9
  rw [w64_of (by omega)]
  refine ⟨f, M, rfl, h1.next h3 (fun x hx ha => ?_), h2, h3⟩
  have huo := h1.all u (List.mem_of_getElem? h3)
  obtain ⟨a, b, pa, pb, hne, hmv⟩ := E_mvOf huo.1 hx.1 (hx.2.trans huo.2.symm) (by rw [huo.2]; exact ha)
  have ba := pg_bd pa
  have bb := pg_bd pb
  have ea : a = ((a.toNat : Nat) : Int) := by omega
  have eb : b = ((b.toNat : Nat) : Int) := by omega
  rw [ea, eb] at hmv
  exact h5 a.toNat b.toNat x (by omega) (by omega) (by omega) hmv

theorem far_p {t : List Int} (ht : okD t) (hl : t.length = s.length) : gameroomref_DiscsFar_m s t = some (D (st s) (st t) s.length : Int) := by
  have p3 := pow6 h6
  have pos : 0 < 3 ^ s.length := Nat.pow_pos (by omega)
  unfold gameroomref_DiscsFar_m
  have k1 := loop_from (step := gameroomref_DiscsFar_L1 s) (s0 := (1, 0)) (r := ((3 ^ s.length : Nat) : Int)) (fun k => (((3 ^ k : Nat) : Int), (k : Int))) s.length (by simp) (by
    intro k hk
    have q := pow6 (n := k) (by omega)
    simp only [gameroomref_DiscsFar_L1, gameroomref_DiscsFar_J2, gameroomref_DiscsFar_J3]
    rw [if_pos (decide_eq_true (by omega))]
    generalize hP : 3 ^ k = P at q ⊢
    rw [w64_of (by omega), w64_of (by omega), Nat.pow_succ, hP]
    congr 3
    omega) (by
    simp only [gameroomref_DiscsFar_L1]
    rw [if_neg (by simp)])
  rw [k1, Option.bind_some]
  simp only [gameroomref_DiscsFar_K1]
  unfold gameroomref_DiscsFar_J1
  generalize hP : 3 ^ s.length = P at p3 pos k1 ⊢
  rw [asrt_pos (by unfold bigN; omega), Int.toNat_natCast]
  have k2 := loop_from (step := gameroomref_DiscsFar_L2 (P : Int)) (s0 := (List.replicate P (0 : Int), 0)) (r := mr P (fun _ => -1)) (fun k => (mr P (fun j => if j < k then -1 else 0), (k : Int))) P (by
    show (_, _) = (_, _)
    rw [mr_rep]
    congr 1) (by
    intro k hk
    simp only [gameroomref_DiscsFar_L2, gameroomref_DiscsFar_J5, gameroomref_DiscsFar_J6]
    rw [if_pos (decide_eq_true (by omega)), Int.toNat_natCast, asrt_pos (by omega), w64_of (by omega), Int.toNat_natCast, mr_set]
    congr 3
    exact mr_congr fun j hj => by
      by_cases e : j = k
      · rw [if_pos e, if_pos (by omega)]
      · rw [if_neg e]
        by_cases e2 : j < k
        · rw [if_pos e2, if_pos (by omega)]
        · rw [if_neg e2, if_neg (by omega)]) (by
    simp only [gameroomref_DiscsFar_L2]
    rw [if_neg (by simp)]
    congr 2
    exact mr_congr fun j hj => if_pos hj)
  rw [k2, Option.bind_some]
  simp only [gameroomref_DiscsFar_K2]
  unfold gameroomref_DiscsFar_J4
  have ns := num_lt s hs.2
  have nt := num_lt t ht.2
  rw [hl] at nt
  rw [hP] at ns nt
  rw [discNumber_p hs h6, Option.bind_some, Int.toNat_natCast, asrt_pos (by omega)]
  unfold gameroomref_Ints_m
  rw [asrt_pos (by unfold bigN; omega), List.nil_append, Option.bind_some, Int.toNat_natCast]
  have k3 := wf_loop (step := gameroomref_DiscsFar_L3 (P : Int)) (fun q : List Int × List (List Int) × Int => ∃ i : Nat, q.2.2 = (i : Int) ∧ BIs s q.2.1 i ∧ FM s q.1 q.2.1 ∧ i ≤ q.2.1.length) (fun q => 729 - q.2.2.toNat) (fun far => ∀ z, okS s.length z → geti far (num z : Int) = (D (st s) (st z) s.length : Int)) (by
    rintro ⟨far, L, ii⟩ ⟨i, hi, hB, hF, hiL⟩
    dsimp only at hi hB hF hiL
    subst hi
    have hLl : L.length ≤ 729 := by
      have hn : (L.map num).Nodup := by
        rw [List.nodup_iff_pairwise_ne, List.pairwise_map]
        exact (List.Pairwise.and_mem.1 hB.nodup).imp (fun {x y} h e => h.2.2 (num_inj x y (hB.all x h.1).1.2 (hB.all y h.2.1).1.2 ((hB.all x h.1).2.trans (hB.all y h.2.1).2.symm) e))
      have hsub : ∀ k ∈ L.map num, k < 729 := fun k hk => by
        obtain ⟨x, hx, rfl⟩ := List.mem_map.1 hk
        have := num_bd (hB.all x hx).1 (by rw [(hB.all x hx).2]; exact h6) 0
        rwa [List.drop_zero] at this
      have := nodup_len 729 _ hn hsub
      rwa [List.length_map] at this
    simp only [gameroomref_DiscsFar_L3]
    by_cases h : i < L.length
    · left
      obtain ⟨u, hu⟩ : ∃ u, L[i]? = some u := ⟨L[i], List.getElem?_eq_getElem h⟩
      obtain ⟨f', L', h1, h2, h3, h4⟩ := outer_p hs h6 hB hF hu (by omega)
      rw [hP] at h1
      exact ⟨(f', L', ((i + 1 : Nat) : Int)), by rw [if_pos (decide_eq_true (by omega))]; exact h1, ⟨i + 1, rfl, h2, h3, (List.getElem?_eq_some_iff.1 h4).1⟩, by dsimp only; omega⟩
    · right
      have e : i = L.length := by omega
      refine ⟨far, by rw [if_neg (by simp; omega)], fun z hz => (hF.2 z hz).1 ?_⟩
      rw [e] at hB
      exact bfin hs hB hz)
    ((mr P (fun _ => -1)).set (num s) 0, [s], 0) ⟨0, rfl, bstart hs, ⟨by rw [List.length_set, mr_length, hP], fun z hz => by
      have nz := num_lt z hz.1.2
      rw [hz.2, hP] at nz
      rw [geti_set' (by omega) (by rw [mr_length]; exact ns)]
      by_cases e : z = s
      · subst e
        rw [if_pos rfl]
        exact ⟨fun _ => by rw [D_self]; rfl, fun h => absurd (by simp) h⟩
      · have hne : (num z : Int) ≠ (num s : Int) := fun h => e (num_inj z s hz.1.2 hs.2 hz.2 (by omega))
        rw [if_neg hne, mr_geti nz]
        exact ⟨fun h => absurd (by simpa using h) e, fun _ => rfl⟩⟩, by simp⟩
  obtain ⟨f, hf1, hf2⟩ := k3
  rw [hf1, Option.bind_some]
  simp only [gameroomref_DiscsFar_K3]
  unfold gameroomref_DiscsFar_J7
  rw [discNumber_p ht (by omega), Option.bind_some, Int.toNat_natCast, asrt_pos (by omega), hf2 t ⟨ht, hl⟩]
end
end Go.Proofs.Ytbmhcapeikebgaa
