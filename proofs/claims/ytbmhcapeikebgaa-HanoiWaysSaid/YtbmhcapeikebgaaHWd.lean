/-
  Discs on three pegs: the way to a peg, and the law.
-/
import Derived.Test.YtbmhcapeikebgaaHWc
namespace Go.Proofs.Ytbmhcapeikebgaa
open Go Go.GL Go.HW

/-- Moves that lead from one state to another. -/
def Rp : List Int → List (Int × Int × Int) → List Int → Prop
  | z, [], z' => z' = z
  | z, m :: ms, z' => m.2.2 = 0 ∧ ∃ z1, gameroomref_DiscMove_m z m.1 m.2.1 0 = some (z1, 0) ∧ okD z1 ∧ z1.length = z.length ∧ Rp z1 ms z'
theorem Rp.app : ∀ {ms ns : List (Int × Int × Int)} {z z1 z2 : List Int}, Rp z ms z1 → Rp z1 ns z2 → Rp z (ms ++ ns) z2
  | [], _, _, _, _, h, k => by
    have e : _ = _ := h
    rw [← e]; exact k
  | m :: ms, _, _, _, _, ⟨h1, z', h2, h3, h4, h5⟩, k => ⟨h1, z', h2, h3, h4, h5.app k⟩

theorem getD_set {z : List Int} {n : Nat} (hn : n < z.length) (x : Int) (i : Nat) : st (z.set n x) i = if i = n then x else st z i := by
  show geti (z.set n x) (i : Int) = _
  rw [geti_set' (by omega) hn]
  by_cases e : i = n
  · rw [if_pos e, if_pos (by omega)]
  · rw [if_neg e, if_neg (by omega)]

theorem bring_F : ∀ (N n : Nat) (p : Int) (z : List Int) (v : List (Int × Int × Int)), n < N → okD z → n ≤ z.length → n ≤ 10 → pg p → v.length + 2 ^ n ≤ 100000 →
    ∃ z' ms, hanoi_Way_1_mF N n p z v = some (z', v ++ ms) ∧ okD z' ∧ z'.length = z.length ∧ (∀ i, i < n → st z' i = p) ∧ (∀ i, n ≤ i → st z' i = st z i) ∧ ms.length = G (st z) n p ∧ Rp z ms z'
  | 0, _, _, _, _, h, _, _, _, _, _ => by omega
  | N + 1, n, p, z, v, hN, hz, hn, h10, hp, hv => by
    show ∃ z' ms, hanoi_Way_1_B (hanoi_Way_1_mF N) n p z v = _ ∧ _
    unfold hanoi_Way_1_B
    cases n with
    | zero =>
      rw [if_pos (by decide)]
      exact ⟨z, [], by rw [List.append_nil], hz, rfl, fun i h => by omega, fun i _ => rfl, rfl, rfl⟩
    | succ n =>
      rw [if_neg (by rw [beq_iff_eq]; omega)]
      unfold hanoi_Way_1_J2
      have e1 : w64 (((n + 1 : Nat) : Int) - 1) = (n : Int) := by rw [w64_of (by omega)]; omega
      have a := hz.at_ (i := n) (by omega)
      have ba := pg_bd a
      have bp := pg_bd hp
      have h2n : 2 ^ (n + 1) = 2 * 2 ^ n := by rw [Nat.pow_succ]; omega
      rw [h2n] at hv
      have hG : G (st z) (n + 1) p = (if st z n = p then G (st z) n p else G (st z) n (3 - st z n - p) + 2 ^ n) := rfl
      -- the second half
      have half : ∀ (z1 : List Int) (v1 : List (Int × Int × Int)), okD z1 → z1.length = z.length → st z1 n = p → (∀ i, n + 1 ≤ i → st z1 i = st z i) → v1.length + 2 ^ n ≤ 100000 →
          ∃ z' ms, hanoi_Way_1_J3 (hanoi_Way_1_mF N) ((n + 1 : Nat) : Int) p z1 v1 = some (z', v1 ++ ms) ∧ okD z' ∧ z'.length = z.length ∧ (∀ i, i < n + 1 → st z' i = p) ∧ (∀ i, n + 1 ≤ i → st z' i = st z i) ∧ ms.length = G (st z1) n p ∧ Rp z1 ms z' := by
        intro z1 v1 k1 k2 k3 k4 k5
        obtain ⟨z', ms, m1, m2, m3, m4, m5, m6, m7⟩ := bring_F N n p z1 v1 (by omega) k1 (by omega) (by omega) hp k5
        unfold hanoi_Way_1_J3 hanoi_Way_1_J1
        rw [e1, m1, Option.bind_some]
        refine ⟨z', ms, rfl, m2, m3.trans k2, fun i hi => ?_, fun i hi => by rw [m5 i (by omega), k4 i hi], m6, m7⟩
        by_cases e : i = n
        · rw [e, m5 n (Nat.le_refl _), k3]
        · exact m4 i (by omega)
      rw [e1, asrt_pos (by omega)]
      by_cases q : st z n = p
      · rw [if_neg (by rw [bne_iff_ne]; exact fun y => y q), hG, if_pos q]
        exact half z v hz rfl q (fun i _ => rfl) (by omega)
      · have t3 := pg_third a hp q
        have e2 : w64 (w64 (3 - geti z (n : Int)) - p) = 3 - st z n - p := by
          show w64 (w64 (3 - st z n) - p) = _
          rw [w64_of (x := 3 - st z n) (by omega), w64_of (by omega)]
        rw [if_pos (by rw [bne_iff_ne]; exact q), e2]
        obtain ⟨z1, ms1, m1, m2, m3, m4, m5, m6, m7⟩ := bring_F N n (3 - st z n - p) z v (by omega) hz (by omega) (by omega) t3.1 (by omega)
        have g1 := G_le (σ := st z) n (3 - st z n - p)
        have hn1 : n < z1.length := by omega
        rw [m1, Option.bind_some]
        dsimp only
        rw [asrt_pos (by unfold bigK; rw [List.length_append]; omega), asrt_pos (by omega), Int.toNat_natCast]
        have hs1 : st z1 n = st z n := m5 n (Nat.le_refl _)
        have hok : okD (z1.set n p) := ⟨by rw [List.length_set]; exact m2.1, fun x hx => by
          rcases List.mem_or_eq_of_mem_set hx with y | y
          · exact m2.2 x y
          · rw [y]; exact hp⟩
        have hmv : gameroomref_DiscMove_m z1 (st z n) p 0 = some (z1.set n p, 0) := by
          rw [DiscMove_p m2.1 a hp q]
          have hE : E z1.length (st z1) (st (z1.set n p)) := ⟨n, hn1, by rw [getD_set hn1, if_pos rfl, hs1]; exact q, fun i hi => by
            rw [getD_set hn1, if_pos rfl, hs1, getD_set hn1, if_neg (by omega)]
            exact ⟨m4 i hi, rfl⟩, fun i hi _ => by rw [getD_set hn1, if_neg (by omega)]⟩
          have hf : z1.findIdx? (fun x => x == st z n) = some n := by
            rw [List.findIdx?_eq_some_iff_getElem]
            have get : ∀ i (hi : i < z1.length), z1[i] = st z1 i := fun i hi => by
              have := get_geti hi
              rw [List.getElem?_eq_getElem hi] at this
              exact Option.some.inj this
            refine ⟨hn1, by rw [beq_iff_eq, get n hn1, hs1], fun j hj => ?_⟩
            rw [beq_iff_eq, get j (by omega), m4 j hj]
            exact t3.2.1
          unfold mvOf
          rw [hf]
          dsimp only
          have ha : (z1.take n).any (fun x => x == p) = false := by
            rw [List.any_eq_false]
            intro x hx
            obtain ⟨i, hi⟩ := List.mem_iff_getElem?.1 hx
            rw [List.getElem?_take] at hi
            split at hi
            · rename_i y
              rw [get_geti (by omega)] at hi
              have e : st z1 i = x := Option.some.inj hi
              rw [beq_iff_eq, ← e, m4 i y]
              exact t3.2.2
            · cases hi
          rw [ha, if_neg (by decide)]
        obtain ⟨z', ms, k1, k2, k3, k4, k5, k6, k7⟩ := half (z1.set n p) (v ++ ms1 ++ [(st z n, p, 0)]) hok (by rw [List.length_set, m3]) (by rw [getD_set hn1, if_pos rfl]) (fun i hi => by rw [getD_set hn1, if_neg (by omega)]; exact m5 i (by omega)) (by rw [List.length_append, List.length_append]; simp only [List.length_cons, List.length_nil]; omega)
        refine ⟨z', ms1 ++ (st z n, p, 0) :: ms, ?_, k2, k3, k4, k5, ?_, m7.app ⟨rfl, _, hmv, hok, by rw [List.length_set], k7⟩⟩
        · show hanoi_Way_1_J3 _ _ _ (z1.set n p) (v ++ ms1 ++ [(st z n, p, 0)]) = _
          rw [k1]
          simp
        · have gp := G_perf (σ := st (z1.set n p)) n p (3 - st z n - p) hp t3.1 (fun i hi => by rw [getD_set hn1, if_neg (by omega)]; exact m4 i hi)
          rw [if_neg t3.2.2] at gp
          rw [List.length_append, List.length_cons, m6, k6, hG, if_neg q]
          omega

/-- The document goes along a way. -/
theorem walk_p {ms : List (Int × Int × Int)} (e : Int) (hml : ms.length ≤ 100000) : ∀ (r : List (Int × Int × Int)) (k : Nat) (z z' : List Int), ms.drop k = r → okD z → Rp z r z' → loop (gameroomlaw_HanoiWays_L2 (ms, e)) (z, (k : Int)) = some (.go z')
  | [], k, z, z', hr, _, h => by
    have hk : ms.length ≤ k := List.drop_eq_nil_iff.1 hr
    have e2 : z' = z := h
    subst e2
    refine loop_done ?_
    simp only [gameroomlaw_HanoiWays_L2]
    rw [if_neg (by simp; omega)]
  | m :: r, k, z, z', hr, hz, ⟨h1, z1, h2, h3, h4, h5⟩ => by
    have hk : k < ms.length := by
      by_cases q : k < ms.length
      · exact q
      · rw [List.drop_eq_nil_of_le (by omega)] at hr; cases hr
    rw [List.drop_eq_getElem_cons hk] at hr
    injection hr with hm hr2
    have hg : getd ((0, 0, 0) : Int × Int × Int) ms (k : Int) = m := getd_some (by rw [List.getElem?_eq_getElem hk, hm])
    refine loop_next' (s' := (z1, ((k + 1 : Nat) : Int))) ?_ (walk_p e hml r (k + 1) z1 z' hr2 h3 h5)
    simp only [gameroomlaw_HanoiWays_L2]
    rw [if_pos (decide_eq_true (by omega))]
    unfold gameroomlaw_HanoiWays_J11 gameroomlaw_HanoiWays_J13 gameroomlaw_HanoiWays_J12
    dsimp only
    rw [asrt_pos (by omega), hg, h1, h2, Option.bind_some, asrt_pos (by intro _; omega), if_neg (show ¬((((0:Int) != 0) || ((0:Int) != 0)) = true) by decide), w64_of (by omega)]
    rfl

theorem ints_p {l : List Int} (hl : l.length ≤ 17592186043904) : gameroomlaw_ints_m l = some l := by
  unfold gameroomlaw_ints_m
  rw [asrt_pos (by unfold bigN; omega), List.nil_append]
theorem clone_p {l : List Int} (hl : l.length ≤ 17592186043904) : slices_Clone_m l = some l := by
  unfold slices_Clone_m slices_Clone_J1
  rw [asrt_pos (by unfold bigN; omega), List.nil_append]
theorem same_l (c : List Int) (hl : c.length ≤ 17592186043904) : gameroomlaw_sameInts_m c c = some true := by
  unfold gameroomlaw_sameInts_m gameroomlaw_sameInts_J1
  rw [if_neg (by simp)]
  have h := loop_from (step := gameroomlaw_sameInts_L1 c c) (s0 := 0) (r := Fl.go ()) (fun k => ((k : Nat) : Int)) c.length rfl (by
    intro k hk
    simp only [gameroomlaw_sameInts_L1, gameroomlaw_sameInts_J3, gameroomlaw_sameInts_J4]
    rw [if_pos (decide_eq_true (by omega)), asrt_pos (by omega), asrt_pos (by omega), if_neg (by simp), w64_of (by omega)]; rfl) (by
    simp only [gameroomlaw_sameInts_L1]; rw [if_neg (by simp)])
  rw [h]; rfl

theorem true_HanoiWays (s t : List Int) (peg : Int) (hl : s.length ≤ 17592186043904) (_h1 : ∀ y ∈ s, inI y) (hlt : t.length ≤ 17592186043904) (_h2 : ∀ y ∈ t, inI y) (_h3 : inI peg) : gameroomlaw_HanoiWays_m s t peg = some true := by
  have way : ∃ r5 : List (Int × Int × Int) × Int, hanoi_Way_m s peg = some r5 ∧ (discE s ≠ 0 → r5 = ([], discE s)) ∧ (discE s = 0 → gameroomlaw_HanoiWays_J3 s peg r5 = some true) := by
    unfold hanoi_Way_m
    rw [check_p hl, Option.bind_some]
    by_cases h0 : discE s ≠ 0
    · rw [if_pos (by rw [bne_iff_ne]; exact h0)]
      exact ⟨_, rfl, fun _ => rfl, fun z => absurd z h0⟩
    · have hok := discE_ok.1 (Decidable.not_not.1 h0)
      rw [if_neg (by rw [bne_iff_ne]; exact h0)]
      unfold hanoi_Way_J1 hanoi_off_m gameroomlaw_HanoiWays_J3
      rw [Option.bind_some]
      by_cases hp : 0 ≤ peg ∧ peg ≤ 2
      · have hpc : (decide (peg < 0) || decide ((2 : Int) < peg)) = false := by simp; omega
        have pp : pg peg := by unfold pg; omega
        rw [hpc, if_neg (by decide)]
        simp only [if_neg (show ¬ false = true by decide)]
        unfold gameroomlaw_HanoiWays_J5
        by_cases h10 : 10 < s.length
        · rw [if_pos (decide_eq_true (by omega))]
          refine ⟨_, rfl, fun z => absurd z h0, fun _ => ?_⟩
          rw [if_pos (decide_eq_true (by omega))]; rfl
        · rw [if_neg (by simp; omega)]
          unfold hanoi_Way_J2
          have hpw : 2 ^ s.length ≤ 1024 := Nat.le_trans (Nat.pow_le_pow_right (by omega) (show s.length ≤ 10 by omega)) (by decide)
          obtain ⟨z', ms, m1, m2, m3, m4, m5, m6, m7⟩ := bring_F (s.length + 1) s.length peg s [] (by omega) hok (Nat.le_refl _) (by omega) pp (by simp; omega)
          have m1' := hanoi_Way_1_m_of _ _ _ _ _ m1
          rw [clone_p hl, Option.bind_some, m1', Option.bind_some]
          refine ⟨_, rfl, fun z => absurd z h0, fun _ => ?_⟩
          dsimp only
          rw [if_neg (by simp; omega)]
          unfold gameroomlaw_HanoiWays_J6
          rw [ints_p hl, Option.bind_some, asrt_pos (by unfold bigN; omega), Int.toNat_natCast]
          have k2 := loop_from (step := gameroomlaw_HanoiWays_L1 s peg) (s0 := (List.replicate s.length (0 : Int), 0)) (r := mr s.length (fun _ => peg)) (fun k => (mr s.length (fun j => if j < k then peg else 0), (k : Int))) s.length (by
            show (_, _) = (_, _)
            rw [mr_rep]
            congr 1) (by
            intro k hk
            simp only [gameroomlaw_HanoiWays_L1, gameroomlaw_HanoiWays_J8, gameroomlaw_HanoiWays_J9]
            rw [if_pos (decide_eq_true (by omega)), Int.toNat_natCast, asrt_pos (by omega), w64_of (by omega), Int.toNat_natCast, mr_set]
            congr 3
            exact mr_congr fun j hj => by
              by_cases e : j = k
              · rw [if_pos e, if_pos (by omega)]
              · rw [if_neg e]
                by_cases e2 : j < k
                · rw [if_pos e2, if_pos (by omega)]
                · rw [if_neg e2, if_neg (by omega)]) (by
            simp only [gameroomlaw_HanoiWays_L1]
            rw [if_neg (by simp)]
            congr 2
            exact mr_congr fun j hj => if_pos hj)
          rw [k2, Option.bind_some]
          simp only [gameroomlaw_HanoiWays_K1]
          unfold gameroomlaw_HanoiWays_J7
          have g1 := G_le (σ := st s) s.length peg
          have hmsl : ms.length ≤ 100000 := by omega
          have hwk := walk_p (ms := ms) 0 hmsl ms 0 s z' (List.drop_zero) hok m7
          rw [List.nil_append]
          rw [show loop (gameroomlaw_HanoiWays_L2 (ms, 0)) (s, 0) = some (.go z') from hwk, Option.bind_some]
          simp only [gameroomlaw_HanoiWays_K2]
          unfold gameroomlaw_HanoiWays_J10
          have hz' : z' = mr s.length (fun _ => peg) := by
            refine ext_geti (by rw [mr_length, m3]) (fun i hi => ?_)
            rw [mr_geti (by omega)]
            exact m4 i (by omega)
          have hall : okD (mr s.length (fun _ => peg)) := by rw [← hz']; exact m2
          have hb := between_p hok hall (by rw [mr_length])
          have hd := D_perf (s := st s) (τ := st (mr s.length (fun _ => peg))) s.length peg pp hok.v (fun i hi => mr_geti hi)
          dsimp only
          rw [hz', if_pos (by decide), same_l _ (by rw [mr_length]; omega), Option.bind_some, if_pos (by decide), hb, Option.bind_some, hd, m6]
          simp
      · have hpc : (decide (peg < 0) || decide ((2 : Int) < peg)) = true := by simp; omega
        rw [hpc, if_pos rfl]
        exact ⟨_, rfl, fun z => absurd z h0, fun _ => by rw [if_pos rfl]; rfl⟩
  obtain ⟨r5, w1, w2, w3⟩ := way
  unfold gameroomlaw_HanoiWays_m
  rw [ints_p hl, Option.bind_some, ints_p hlt, Option.bind_some, Far_p hl hlt, Option.bind_some, Option.bind_some, w1, Option.bind_some, discsMay_p hl, Option.bind_some]
  by_cases h0 : discE s ≠ 0
  · rw [if_pos (by rw [bne_iff_ne]; exact h0), if_pos h0, w2 h0]
    simp
  · have h0' := Decidable.not_not.1 h0
    have hok := discE_ok.1 h0'
    rw [if_neg (by rw [bne_iff_ne]; exact h0), if_neg h0]
    unfold gameroomlaw_HanoiWays_J1
    rw [discsMay_p hlt, Option.bind_some]
    by_cases h1 : discE t ≠ 0
    · rw [if_pos h1, if_neg (by simp only [Bool.and_eq_true, beq_iff_eq]; exact fun z => h1 z.1)]
      unfold gameroomlaw_HanoiWays_J2
      rw [if_pos (by rw [bne_iff_ne]; exact h1), if_neg (by simp)]
      exact w3 h0'
    · have h1' := Decidable.not_not.1 h1
      have hokt := discE_ok.1 h1'
      rw [if_neg h1, h1']
      by_cases h2 : s.length ≠ t.length
      · rw [if_pos h2, if_pos (by simp only [Bool.and_eq_true, beq_iff_eq, bne_iff_ne]; first | exact ⟨trivial, by omega⟩ | omega)]
        unfold gameroomlaw_HanoiWays_J2
        rw [if_pos (by decide), if_neg (by decide)]
        exact w3 h0'
      · have h2' := Decidable.not_not.1 h2
        rw [if_neg h2, if_neg (by simp only [Bool.and_eq_true, beq_iff_eq, bne_iff_ne]; omega)]
        unfold gameroomlaw_HanoiWays_J2
        rw [if_neg (by decide), between_p hok hokt h2', Option.bind_some]
        by_cases h6 : s.length ≤ 6
        · rw [if_pos (decide_eq_true (by omega)), far_p hok h6 hokt h2'.symm, Option.bind_some]
          unfold gameroomlaw_HanoiWays_J4
          rw [if_neg (by simp)]
          exact w3 h0'
        · rw [if_neg (by simp; omega)]
          unfold gameroomlaw_HanoiWays_J4
          rw [if_neg (by simp)]
          exact w3 h0'
end Go.Proofs.Ytbmhcapeikebgaa
