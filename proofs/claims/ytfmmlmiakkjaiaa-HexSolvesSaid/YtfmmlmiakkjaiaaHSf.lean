/-
  Hex: a game solved, with what is known of boards; the document's own way.
-/
import Derived.Test.YtfmmlmiakkjaiaaHSe
import Derived.Test.YtfmmlmiakkjaiaaHSa
import Derived.Test.YtfmmlmiakkjaiaaLibK
namespace Go.Proofs.Ytfmmlmiakkjaiaa
open Go Go.GL

/-- Bits as a number. -/
def numN (p : Nat → Bool) : Nat → Nat
  | 0 => 0
  | n + 1 => numN p n + (if p n then 2 ^ n else 0)
theorem numN_lt (p : Nat → Bool) : ∀ n, numN p n < 2 ^ n
  | 0 => by simp [numN]
  | n + 1 => by
    have := numN_lt p n
    unfold numN
    rw [Nat.pow_succ]
    split <;> omega
theorem numN_inj {p q : Nat → Bool} : ∀ n, numN p n = numN q n → ∀ i, i < n → p i = q i
  | 0, _, i, hi => by omega
  | n + 1, h, i, hi => by
    have h1 := numN_lt p n
    have h2 := numN_lt q n
    unfold numN at h
    have hpq : p n = q n := by
      cases hp : p n <;> cases hq : q n <;> simp [hp, hq] at h ⊢ <;> omega
    by_cases e : i = n
    · rw [e]; exact hpq
    · rw [hpq] at h
      exact numN_inj n (by omega) i (by omega)

theorem or64 {x i : Nat} (hx : x < 2 ^ i) (hi : i ≤ 63) : orK .u64 (x : Int) (shlK .u64 1 (i : Int)) = ((x + 2 ^ i : Nat) : Int) := by
  have hp : 2 ^ i ≤ 9223372036854775808 := by
    calc 2 ^ i ≤ 2 ^ 63 := Nat.pow_le_pow_right (by omega) hi
      _ = 9223372036854775808 := by decide
  have hw : ∀ n : Nat, n < 18446744073709551616 → IntKind.wrap .u64 (n : Int) = (n : Int) := by
    intro n hn
    unfold IntKind.wrap
    simp [IntKind.bits, IntKind.signed]
    omega
  have e1 : shlK .u64 1 (i : Int) = ((2 ^ i : Nat) : Int) := by
    unfold shlK
    have hb : min (i : Int).toNat IntKind.u64.bits = i := by
      rw [Int.toNat_natCast]
      have : IntKind.u64.bits = 64 := rfl
      omega
    rw [hb, Int.one_mul]
    have e : (2 : Int) ^ i = ((2 ^ i : Nat) : Int) := by simp
    rw [e]
    exact hw _ (by omega)
  rw [e1]
  unfold orK
  have e : (BitVec.ofInt 64 (x : Int) ||| BitVec.ofInt 64 ((2 ^ i : Nat) : Int)).toNat = x + 2 ^ i := by
    have h1 : (BitVec.ofInt 64 (x : Int)).toNat = x := by rw [BitVec.toNat_ofInt]; omega
    have h2 : (BitVec.ofInt 64 ((2 ^ i : Nat) : Int)).toNat = 2 ^ i := by rw [BitVec.toNat_ofInt]; omega
    rw [BitVec.toNat_or, h1, h2, Nat.or_comm]
    have := Nat.two_pow_add_eq_or_of_lt hx 1
    rw [Nat.mul_one] at this
    omega
  rw [e]
  exact hw _ (by omega)

theorem and63 : ∀ z : Nat, z < 64 → bAnd (z : Int) 63 = z := by decide +kernel
theorem and63_pos : ∀ z : Nat, z < 301 → 0 ≤ bAnd (z : Int) 63 := by decide +kernel

section
variable {W : Int} {c : List Int} {who : Int} {J : List Int → Int}

def bitS (c : List Int) (v : Int) (n : Nat) : Nat := numN (fun i => decide (geti c (i : Int) = v)) n

theorem bitS_lt (v : Int) (n : Nat) : bitS c v n < 2 ^ n := numN_lt _ n
theorem bitS_yes {v : Int} {n : Nat} (h : geti c (n : Int) = v) : bitS c v (n + 1) = bitS c v n + 2 ^ n := by
  unfold bitS
  conv => lhs; unfold numN
  rw [if_pos (decide_eq_true h)]
theorem bitS_no {v : Int} {n : Nat} (h : ¬ geti c (n : Int) = v) : bitS c v (n + 1) = bitS c v n := by
  unfold bitS
  conv => lhs; unfold numN
  rw [if_neg (by rw [decide_eq_true_eq]; exact h), Nat.add_zero]

theorem key_p (H : Int) (kn : List ((Int × Int × Int) × Int)) (hc : c.length ≤ 300) : ∃ k1 k2, hex_solver_key_m W H c kn who = some (k1, k2, who) ∧ (c.length ≤ 64 → k1 = bitS c 1 c.length ∧ k2 = bitS c 2 c.length) := by
  have key := count_loop (step := hex_solver_key_L1 c) (fun (s : Int × Int) (i : Nat) => (s.1, s.2, (i : Int))) (fun n s => n ≤ 64 → s = ((bitS c 1 n : Int), (bitS c 2 n : Int))) (fun s => c.length ≤ 64 → s = ((bitS c 1 c.length : Int), (bitS c 2 c.length : Int))) c.length (0, 0) (fun _ => rfl) (by
    rintro i ⟨k1, k2⟩ hi h1
    left
    simp only [hex_solver_key_L1]
    rw [if_pos (decide_eq_true (by omega))]
    unfold hex_solver_key_J2 hex_solver_key_J3
    have h63 := and63_pos i (by omega)
    rw [asrt_pos (by omega), w64_of (by omega)]
    by_cases q1 : geti c i = 1
    · rw [if_pos (by rw [beq_iff_eq]; exact q1), asrt_pos (by omega)]
      refine ⟨(orK .u64 k1 (shlK .u64 1 (bAnd (i : Int) 63)), k2), rfl, fun hn => ?_⟩
      have e := h1 (by omega)
      simp only [Prod.mk.injEq] at e
      simp only [Prod.mk.injEq]
      rw [e.1, e.2, and63 i (by omega), or64 (bitS_lt _ i) (by omega), bitS_yes q1, bitS_no (by omega)]
      exact ⟨rfl, rfl⟩
    · rw [if_neg (by rw [beq_iff_eq]; exact q1)]
      by_cases q2 : geti c i = 2
      · rw [if_pos (by rw [beq_iff_eq]; exact q2), asrt_pos (by omega)]
        refine ⟨(k1, orK .u64 k2 (shlK .u64 1 (bAnd (i : Int) 63))), rfl, fun hn => ?_⟩
        have e := h1 (by omega)
        simp only [Prod.mk.injEq] at e
        simp only [Prod.mk.injEq]
        rw [e.1, e.2, and63 i (by omega), or64 (bitS_lt _ i) (by omega), bitS_yes q2, bitS_no q1]
        exact ⟨rfl, rfl⟩
      · rw [if_neg (by rw [beq_iff_eq]; exact q2)]
        refine ⟨(k1, k2), rfl, fun hn => ?_⟩
        rw [h1 (by omega), bitS_no q1, bitS_no q2]) (by
    rintro ⟨k1, k2⟩ h1
    refine ⟨(k1, k2), ?_, h1⟩
    simp only [hex_solver_key_L1]
    rw [if_neg (by simp)])
  obtain ⟨⟨k1, k2⟩, hr, h⟩ := key
  have hr' : loop (hex_solver_key_L1 c) (0, 0, 0) = some (k1, k2) := hr
  refine ⟨k1, k2, ?_, fun hl => ?_⟩
  · unfold hex_solver_key_m
    rw [hr', Option.bind_some]
    rfl
  · have := h hl
    simp only [Prod.mk.injEq] at this
    exact this

def In2 (c : List Int) : Prop := ∀ i : Nat, i < c.length → 0 ≤ geti c i ∧ geti c i ≤ 2
theorem In2.set {i : Nat} (h : In2 c) (hi : i < c.length) (hw : who = 1 ∨ who = 2) : In2 (c.set i who) := by
  intro j hj
  rw [List.length_set] at hj
  rw [set_at hi]
  split
  · omega
  · exact h j hj

theorem bits_inj {d : List Int} (hl : c.length = d.length) (hc : In2 c) (hd : In2 d) (h1 : bitS c 1 c.length = bitS d 1 d.length) (h2 : bitS c 2 c.length = bitS d 2 d.length) : c = d := by
  unfold bitS at h1 h2
  rw [hl] at h1 h2
  apply List.ext_getElem?
  intro i
  by_cases hi : i < c.length
  · have a1 := numN_inj _ h1 i (by omega)
    have a2 := numN_inj _ h2 i (by omega)
    have b1 := hc i hi
    have b2 := hd i (by omega)
    rw [decide_eq_decide] at a1 a2
    rw [get_geti hi, get_geti (by omega)]
    congr 1
    omega
  · rw [List.getElem?_eq_none (by omega), List.getElem?_eq_none (by omega)]

/-- What is known is so. -/
def KI (J : List Int → Int) (n : Nat) (kn : List ((Int × Int × Int) × Int)) : Prop :=
  n ≤ 64 → ∀ (d : List Int) (v : Int), d.length = n → In2 d → v = 1 ∨ v = 2 → mhas ((bitS d 1 n : Int), (bitS d 2 n : Int), v) kn = true → mget 0 ((bitS d 1 n : Int), (bitS d 2 n : Int), v) kn = winV J d v

theorem KI.put {kn : List ((Int × Int × Int) × Int)} (h : KI J c.length kn) (hc : In2 c) {k1 k2 : Int} (hk : c.length ≤ 64 → k1 = bitS c 1 c.length ∧ k2 = bitS c 2 c.length) : KI J c.length (mput (k1, k2, who) (winV J c who) kn) := by
  intro hn d v hd hd2 hv hh
  rw [mget_mput]
  rw [mhas_mput] at hh
  obtain ⟨e1, e2⟩ := hk hn
  split
  · rename_i q
    simp only [Prod.mk.injEq] at q
    obtain ⟨q1, q2, q3⟩ := q
    have := bits_inj hd hd2 hc (by rw [hd]; omega) (by rw [hd]; omega)
    rw [this, q3]
  · rename_i q
    rw [decide_eq_false q, Bool.false_or] at hh
    exact h hn d v hd hd2 hv hh

noncomputable def JH (W : Int) (c : List Int) : Int := ((hex_joined_m W W c).getD (0, [])).1
theorem joinedH (B : Dm W W c) : ∃ y, hex_joined_m W W c = some (JH W c, y) ∧ gameroomref_HexJoined_m W W c = some (JH W c, y) := by
  obtain ⟨m, y, h1, h2, _⟩ := joined_both B
  have e : JH W c = m := by unfold JH; rw [h1]; rfl
  exact ⟨y, by rw [h1, e], by rw [h2, e]⟩

theorem any_false_below {n : Nat} {f : Nat → Bool} (h : ∀ i, i < n → f i = false) : (List.range n).any f = false := by
  rw [List.any_eq_false]
  intro i hi
  rw [List.mem_range] at hi
  simp [h i hi]

theorem after_p : ∀ (n : Nat) (c : List Int) (kn : List ((Int × Int × Int) × Int)) (i : Nat) (who : Int), Dm W W c → In2 c → who = 1 ∨ who = 2 → i < c.length → geti c i = 0 → c.count 0 ≤ n → KI (JH W) c.length kn →
    ∃ kn', hex_solver_after_mF n W W c kn i who = some (winV (JH W) (c.set i who) (3 - who), c, kn') ∧ KI (JH W) c.length kn'
  | 0, c, _, i, who, B, _, hw, hi, h0, hn, _ => by
    have := count_taken (who := who) hi h0 (by omega)
    omega
  | n + 1, c, kn, i, who, B, hc, hw, hi, h0, hn, hK => by
    have hsm := B.small
    have hct := count_taken (who := who) hi h0 (by omega)
    have hln : (c.set i who).length = c.length := List.length_set ..
    have hc' : In2 (c.set i who) := hc.set hi hw
    have hw' : 3 - who = 1 ∨ 3 - who = 2 := by omega
    have B' : Dm W W (c.set i who) := B.of_len hln
    unfold hex_solver_after_mF
    unfold hex_solver_after_B
    rw [asrt_pos (by omega), Int.toNat_natCast, w64_of (by omega)]
    have back : (c.set i who).set i 0 = c := by
      rw [List.set_set]
      apply List.ext_getElem?
      intro j
      rw [List.getElem?_set]
      split
      · rename_i e; subst e
        rw [get_geti hi, h0]
      · rfl
    generalize hd : c.set i who = d at *
    generalize hv : 3 - who = v at *
    have key : ∃ kn', hex_solver_winner_m (hex_solver_after_mF n) W W d kn v = some (winV (JH W) d v, d, kn') ∧ KI (JH W) d.length kn' := by
      obtain ⟨y, j1, _⟩ := joinedH B'
      unfold hex_solver_winner_m
      rw [j1, Option.bind_some]
      simp only
      by_cases hj : 0 < JH W d
      · rw [if_pos (decide_eq_true hj), winV_eq hw', if_pos hj]
        exact ⟨kn, rfl, by rw [hln]; exact hK⟩
      · rw [if_neg (by rw [decide_eq_true_eq]; exact hj)]
        unfold hex_solver_winner_J1
        obtain ⟨k1, k2, k3, k4⟩ := key_p (W := W) (who := v) W kn (c := d) (by omega)
        rw [k3, Option.bind_some]
        simp only
        have main : ∃ kn', hex_solver_winner_J2 (hex_solver_after_mF n) W W d kn v (k1, k2, v) = some (winV (JH W) d v, d, kn') ∧ KI (JH W) d.length kn' := by
          unfold hex_solver_winner_J2
          have kl := count_loop (step := hex_solver_winner_L1 (hex_solver_after_mF n) W W d v) (fun (s : List ((Int × Int × Int) × Int)) (z : Nat) => (d, s, (z : Int)))
            (fun m s => KI (JH W) d.length s ∧ ∀ z, z < m → (geti d (z : Int) == 0 && winV (JH W) (d.set z v) (3 - v) == v) = false)
            (fun r => ∃ kn', r = (d, kn', winV (JH W) d v) ∧ KI (JH W) d.length kn') d.length kn ⟨by rw [hln]; exact hK, fun z hz => by omega⟩ (by
              rintro z s hz ⟨h1, h2⟩
              simp only [hex_solver_winner_L1]
              rw [if_pos (decide_eq_true (by omega))]
              unfold hex_solver_winner_J4 hex_solver_winner_J6 hex_solver_winner_J5
              rw [asrt_pos (by omega), w64_of (x := (z : Int) + 1) (by omega)]
              by_cases q : geti d (z : Int) = 0
              · rw [if_pos (by rw [beq_iff_eq]; exact q)]
                obtain ⟨kn', r1, r2⟩ := after_p n d s z v B' hc' hw' hz q (by omega) h1
                rw [r1, Option.bind_some]
                simp only
                by_cases q2 : winV (JH W) (d.set z v) (3 - v) = v
                · right
                  rw [if_pos (by rw [Bool.and_eq_true, beq_iff_eq, beq_iff_eq]; exact ⟨q, q2⟩)]
                  refine ⟨_, rfl, kn', ?_, r2⟩
                  rw [winV_eq hw', if_neg hj, if_pos (List.any_eq_true.2 ⟨z, List.mem_range.2 hz, by rw [Bool.and_eq_true, beq_iff_eq, beq_iff_eq]; exact ⟨q, q2⟩⟩)]
                · left
                  rw [if_neg (by rw [Bool.and_eq_true, beq_iff_eq, beq_iff_eq]; exact fun h => q2 h.2)]
                  refine ⟨kn', rfl, r2, fun z' hz' => ?_⟩
                  by_cases e : z' = z
                  · subst e
                    rw [Bool.and_eq_false_iff, beq_eq_false_iff_ne, beq_eq_false_iff_ne]
                    exact .inr q2
                  · exact h2 z' (by omega)
              · left
                rw [if_neg (by rw [beq_iff_eq]; exact q), if_neg (by rw [Bool.and_eq_true, beq_iff_eq]; exact fun h => q h.1)]
                refine ⟨s, rfl, h1, fun z' hz' => ?_⟩
                by_cases e : z' = z
                · subst e
                  rw [Bool.and_eq_false_iff, beq_eq_false_iff_ne]
                  exact .inl q
                · exact h2 z' (by omega)) (by
              rintro s ⟨h1, h2⟩
              refine ⟨(d, s, w64 (3 - v)), ?_, s, ?_, h1⟩
              · simp only [hex_solver_winner_L1]
                rw [if_neg (by simp)]
              · rw [winV_eq hw', if_neg hj, any_false_below h2, if_neg (by decide), w64_of (by omega)])
          obtain ⟨r, l1, kn', rfl, l2⟩ := kl
          have l1' : loop (hex_solver_winner_L1 (hex_solver_after_mF n) W W d v) (d, kn, 0) = some (d, kn', winV (JH W) d v) := l1
          rw [l1', Option.bind_some]
          simp only [hex_solver_winner_K1, hex_solver_winner_J3]
          exact ⟨_, rfl, l2.put hc' k4⟩
        by_cases h64 : d.length ≤ 64
        · rw [if_pos (decide_eq_true (by omega))]
          by_cases hh : mhas (k1, k2, v) kn = true
          · rw [if_pos hh]
            obtain ⟨e1, e2⟩ := k4 h64
            subst e1 e2
            rw [← hln] at hK
            rw [hK h64 d v rfl hc' hw' hh]
            exact ⟨kn, rfl, hK⟩
          · rw [if_neg hh]
            exact main
        · rw [if_neg (by rw [decide_eq_true_eq]; omega)]
          exact main
    obtain ⟨kn', r1, r2⟩ := key
    rw [r1, Option.bind_some]
    simp only
    rw [asrt_pos (by omega), back]
    exact ⟨kn', rfl, by rw [← hln]; exact r2⟩

theorem gridOf_r (H : Int) (hc : c.length ≤ 17592186044416) : gameroomref_GridOf_m W H c = some (W, H, c) := by
  unfold gameroomref_GridOf_m gameroomref_Ints_m
  rw [asrt_pos (by unfold bigN; omega)]
  rfl

theorem wins_r : ∀ (n : Nat) (c : List Int) (who : Int), Dm W W c → who = 1 ∨ who = 2 → c.count 0 < n → gameroomref_HexWins_mF n W W c who = some (winV (JH W) c who)
  | 0, _, _, _, _, h => by omega
  | n + 1, c, who, B, hw, hn => by
    have hsm := B.small
    obtain ⟨y, _, j1⟩ := joinedH B
    unfold gameroomref_HexWins_mF
    unfold gameroomref_HexWins_B
    rw [j1, Option.bind_some]
    simp only
    by_cases hj : 0 < JH W c
    · rw [if_pos (decide_eq_true hj), winV_eq hw, if_pos hj]
    · rw [if_neg (by rw [decide_eq_true_eq]; exact hj)]
      unfold gameroomref_HexWins_J1
      have key := count_loop (step := gameroomref_HexWins_L1 (gameroomref_HexWins_mF n) W W c who) (fun (_ : Unit) (z : Nat) => (z : Int))
        (fun m _ => ∀ z, z < m → (geti c (z : Int) == 0 && winV (JH W) (c.set z who) (3 - who) == who) = false)
        (fun r => gameroomref_HexWins_K1 who r = some (winV (JH W) c who)) c.length () (fun z hz => by omega) (by
          rintro z _ hz h2
          simp only [gameroomref_HexWins_L1]
          rw [if_pos (decide_eq_true (by omega))]
          unfold gameroomref_HexWins_J3 gameroomref_HexWins_J5 gameroomref_HexWins_J4
          rw [asrt_pos (by omega), w64_of (x := (z : Int) + 1) (by omega)]
          have next : (geti c (z : Int) == 0 && winV (JH W) (c.set z who) (3 - who) == who) = false → ∀ z', z' < z + 1 → (geti c (z' : Int) == 0 && winV (JH W) (c.set z' who) (3 - who) == who) = false := by
            intro hq z' hz'
            by_cases e : z' = z
            · subst e; exact hq
            · exact h2 z' (by omega)
          by_cases q : geti c (z : Int) = 0
          · have hct := count_taken (who := who) hz q (by omega)
            rw [if_neg (by simp [q]), gridOf_r W (by omega), Option.bind_some]
            simp only
            rw [asrt_pos (by omega), Int.toNat_natCast, w64_of (by omega), wins_r n (c.set z who) (3 - who) (B.of_len (List.length_set ..)) (by omega) (by omega), Option.bind_some]
            by_cases q2 : winV (JH W) (c.set z who) (3 - who) = who
            · right
              rw [if_pos (by rw [beq_iff_eq]; exact q2)]
              refine ⟨_, rfl, ?_⟩
              simp only [gameroomref_HexWins_K1]
              rw [winV_eq hw, if_neg hj, if_pos (List.any_eq_true.2 ⟨z, List.mem_range.2 hz, by rw [Bool.and_eq_true, beq_iff_eq, beq_iff_eq]; exact ⟨q, q2⟩⟩)]
            · left
              rw [if_neg (by rw [beq_iff_eq]; exact q2)]
              exact ⟨(), rfl, next (by
                rw [Bool.and_eq_false_iff, beq_eq_false_iff_ne, beq_eq_false_iff_ne]
                exact .inr q2)⟩
          · left
            rw [if_pos (by simpa using q)]
            exact ⟨(), rfl, next (by
              rw [Bool.and_eq_false_iff, beq_eq_false_iff_ne]
              exact .inl q)⟩) (by
          rintro _ h2
          refine ⟨.go (), ?_, ?_⟩
          · simp only [gameroomref_HexWins_L1]
            rw [if_neg (by simp)]
          · simp only [gameroomref_HexWins_K1, gameroomref_HexWins_J2]
            rw [winV_eq hw, if_neg hj, any_false_below h2, if_neg (by decide), w64_of (by omega)])
      obtain ⟨r, hr, h⟩ := key
      have hr' : loop (gameroomref_HexWins_L1 (gameroomref_HexWins_mF n) W W c who) 0 = some r := hr
      rw [hr', Option.bind_some, h]

theorem count_le (c : List Int) : c.count 0 < c.length + 1 := by
  have := List.count_le_length (a := (0 : Int)) (l := c)
  omega

/-- The moves that win. -/
noncomputable def lstS (W : Int) (c : List Int) (who : Int) (n : Nat) : List Int := ((List.range n).filter (fun (z : Nat) => geti c (z : Int) == 0 && winV (JH W) (c.set z who) (3 - who) == who)).map (fun (z : Nat) => (z : Int))
theorem lstS_succ (n : Nat) : lstS W c who (n + 1) = lstS W c who n ++ (if (geti c (n : Int) == 0 && winV (JH W) (c.set n who) (3 - who) == who) = true then [(n : Int)] else []) := by
  unfold lstS
  rw [List.range_succ, List.filter_append, List.map_append]
  congr 1
  by_cases h : (geti c (n : Int) == 0 && winV (JH W) (c.set n who) (3 - who) == who) = true
  · rw [if_pos h, List.filter_cons, if_pos h]; rfl
  · rw [if_neg h, List.filter_cons, if_neg h]; rfl
theorem lstS_len (n : Nat) : (lstS W c who n).length ≤ n := by unfold lstS; exact flen n _

theorem solve_r (B : Dm W W c) (hw : who = 1 ∨ who = 2) (hj : ¬ 0 < JH W c) : gameroomref_HexSolve_m W W c who = some (if 0 < (lstS W c who c.length).length then (who, lstS W c who c.length) else (3 - who, [])) := by
  have hsm := B.small
  obtain ⟨y, _, j1⟩ := joinedH B
  unfold gameroomref_HexSolve_m
  rw [j1, Option.bind_some]
  simp only
  rw [if_neg (by rw [decide_eq_true_eq]; exact hj)]
  unfold gameroomref_HexSolve_J1
  have key := count_loop (step := gameroomref_HexSolve_L1 W W c who) (fun (_ : Unit) (z : Nat) => (lstS W c who z, (z : Int))) (fun _ _ => True) (fun r => r = lstS W c who c.length) c.length () trivial (by
    rintro z _ hz _
    left
    refine ⟨(), ?_, trivial⟩
    have hl := lstS_len (W := W) (c := c) (who := who) z
    simp only [gameroomref_HexSolve_L1]
    rw [if_pos (decide_eq_true (by omega)), lstS_succ]
    unfold gameroomref_HexSolve_J3 gameroomref_HexSolve_J5 gameroomref_HexSolve_J4
    rw [asrt_pos (by omega), w64_of (x := (z : Int) + 1) (by omega)]
    by_cases q : geti c (z : Int) = 0
    · rw [if_neg (by simp [q]), gridOf_r W (by omega), Option.bind_some]
      simp only
      rw [asrt_pos (by omega), Int.toNat_natCast, w64_of (by omega), gameroomref_HexWins_m_of _ W W _ _ (wins_r _ (c.set z who) (3 - who) (B.of_len (List.length_set ..)) (by omega) (count_le _)), Option.bind_some]
      by_cases q2 : winV (JH W) (c.set z who) (3 - who) = who
      · rw [if_pos (by rw [beq_iff_eq]; exact q2), asrt_pos (by unfold bigN; omega), if_pos (by rw [Bool.and_eq_true, beq_iff_eq, beq_iff_eq]; exact ⟨q, q2⟩)]
        rfl
      · rw [if_neg (by rw [beq_iff_eq]; exact q2), if_neg (by rw [Bool.and_eq_true, beq_iff_eq, beq_iff_eq]; exact fun h => q2 h.2), List.append_nil]
        rfl
    · rw [if_pos (by simpa using q), if_neg (by rw [Bool.and_eq_true, beq_iff_eq]; exact fun h => q h.1), List.append_nil]
      rfl) (by
    rintro _ _
    refine ⟨_, ?_, rfl⟩
    simp only [gameroomref_HexSolve_L1]
    rw [if_neg (by simp)])
  obtain ⟨r, hr, rfl⟩ := key
  have hr' : loop (gameroomref_HexSolve_L1 W W c who) ([], 0) = some (lstS W c who c.length) := hr
  rw [hr', Option.bind_some]
  simp only [gameroomref_HexSolve_K1]
  unfold gameroomref_HexSolve_J2 gameroomref_HexSolve_J6
  by_cases h : 0 < (lstS W c who c.length).length
  · rw [if_pos (decide_eq_true (by omega)), if_pos h]
  · rw [if_neg (by rw [decide_eq_true_eq]; omega), if_neg h, w64_of (by omega)]

theorem solve_p (B : Dm W W c) (hc : In2 c) (hw : who = 1 ∨ who = 2) : hex_Solve_J7 W W c who c = some (if 0 < (lstS W c who c.length).length then (who, lstS W c who c.length, 0) else (3 - who, [], 0)) := by
  have hsm := B.small
  unfold hex_Solve_J7
  have key := count_loop (step := hex_Solve_L2 W W c who) (fun (s : List ((Int × Int × Int) × Int)) (z : Nat) => (c, s, lstS W c who z, (z : Int))) (fun _ s => KI (JH W) c.length s) (fun r => r = lstS W c who c.length) c.length [] (fun _ d v _ _ _ h => by simp [mhas] at h) (by
    rintro z s hz hK
    left
    have hl := lstS_len (W := W) (c := c) (who := who) z
    simp only [hex_Solve_L2]
    rw [if_pos (decide_eq_true (by omega)), lstS_succ]
    unfold hex_Solve_J9 hex_Solve_J11 hex_Solve_J10
    rw [asrt_pos (by omega), w64_of (x := (z : Int) + 1) (by omega)]
    by_cases q : geti c (z : Int) = 0
    · obtain ⟨kn', r1, r2⟩ := after_p _ c s z who B hc hw hz q (Nat.le_of_lt (count_le c)) hK
      rw [if_pos (by rw [beq_iff_eq]; exact q), hex_solver_after_m_of _ W W _ _ _ _ r1, Option.bind_some]
      simp only
      refine ⟨kn', ?_, r2⟩
      by_cases q2 : winV (JH W) (c.set z who) (3 - who) = who
      · rw [if_pos (by rw [Bool.and_eq_true, beq_iff_eq, beq_iff_eq]; exact ⟨q, q2⟩), asrt_pos (by unfold bigN; omega)]
        rw [if_pos (by rw [Bool.and_eq_true, beq_iff_eq, beq_iff_eq]; exact ⟨q, q2⟩)]
        rfl
      · rw [if_neg (by rw [Bool.and_eq_true, beq_iff_eq, beq_iff_eq]; exact fun h => q2 h.2)]
        rw [if_neg (by rw [Bool.and_eq_true, beq_iff_eq, beq_iff_eq]; exact fun h => q2 h.2), List.append_nil]
        rfl
    · refine ⟨s, ?_, hK⟩
      rw [if_neg (by rw [beq_iff_eq]; exact q), if_neg (by rw [Bool.and_eq_true, beq_iff_eq]; exact fun h => q h.1), if_neg (by rw [Bool.and_eq_true, beq_iff_eq]; exact fun h => q h.1), List.append_nil]
      rfl) (by
    rintro s _
    refine ⟨_, ?_, rfl⟩
    simp only [hex_Solve_L2]
    rw [if_neg (by simp)])
  obtain ⟨r, hr, rfl⟩ := key
  have hr' : loop (hex_Solve_L2 W W c who) (c, [], [], 0) = some (lstS W c who c.length) := hr
  rw [hr', Option.bind_some]
  simp only [hex_Solve_K2]
  unfold hex_Solve_J8 hex_Solve_J12
  by_cases h : 0 < (lstS W c who c.length).length
  · rw [if_pos (decide_eq_true (by omega)), if_pos h]
  · rw [if_neg (by rw [decide_eq_true_eq]; omega), if_neg h, w64_of (by omega)]
end
end Go.Proofs.Ytfmmlmiakkjaiaa
