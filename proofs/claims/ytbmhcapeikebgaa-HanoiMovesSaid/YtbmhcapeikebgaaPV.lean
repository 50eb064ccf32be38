/-
  HanoiMoves: the plain law, second part: states of the way, and the whole.
-/
import Derived.Test.YtbmhcapeikebgaaPW
namespace Go.Proofs.Ytbmhcapeikebgaa
open Go Go.GL

/-- The state of n discs, moved k times from one peg to another. -/
def hst : Nat → Int → Int → Nat → List Int
  | 0, _, _, _ => []
  | n + 1, f, t, k => if k < 2 ^ n then hst n f (3 - f - t) k ++ [f] else hst n (3 - f - t) t (k - 2 ^ n) ++ [t]

theorem hst_len : ∀ (n : Nat) (f t : Int) (k : Nat), (hst n f t k).length = n
  | 0, _, _, _ => rfl
  | n + 1, f, t, k => by
    simp only [hst]
    split <;> simp [hst_len n]

def pegs (f t : Int) : Prop := 0 ≤ f ∧ f ≤ 2 ∧ 0 ≤ t ∧ t ≤ 2 ∧ f ≠ t

theorem pegs1 {f t : Int} (h : pegs f t) : pegs f (3 - f - t) := by unfold pegs at *; omega
theorem pegs2 {f t : Int} (h : pegs f t) : pegs (3 - f - t) t := by unfold pegs at *; omega
theorem third_w {f t : Int} (h : pegs f t) : w64 ((w64 (3 - f)) - t) = 3 - f - t := by
  unfold pegs at h
  rw [w64_of (x := 3 - f) (by omega), w64_of (by omega)]

theorem set_drop : ∀ (s : List Int) (i : Nat) (x : Int), i < s.length → (s.set i x).drop i = x :: s.drop (i + 1)
  | [], _, _, h => by simp at h
  | y :: s, 0, x, _ => rfl
  | y :: s, i + 1, x, h => by
    simp only [List.set_cons_succ, List.drop_succ_cons]
    exact set_drop s i x (by simpa using h)

theorem two_pos (n : Nat) : 0 < 2 ^ n := Nat.pow_pos (by decide)

theorem nth_loop (n1 : Int) (k : Nat) (hk : k < 4611686018427387904) : ∀ (i : Nat) (s : List Int) (f t : Int), i ≤ 40 → i ≤ s.length → s.length = n1.toNat → pegs f t →
    loop (hanoi_Nth_L1 n1 (k : Int)) (f, t, s, (i : Int) - 1) = some (hst i f t (k % 2 ^ i) ++ s.drop i)
  | 0, s, f, t, _, _, _, _ => by
    refine loop_done ?_
    simp only [hanoi_Nth_L1]
    rw [if_neg (by simp)]
    rfl
  | i + 1, s, f, t, hi, hl, hn, hp => by
    have e : ((i + 1 : Nat) : Int) - 1 = (i : Int) := by omega
    rw [e]
    have hbit : bAnd (shrK .i64 (k : Int) (i : Int)) 1 = ((k / 2 ^ i % 2 : Nat) : Int) := by
      rw [shr_nat k i (by omega), band1 _ (by have := Nat.div_le_self k (2 ^ i); omega)]
    have hw : w64 ((i : Int) - 1) = (i : Int) - 1 := w64_of (by omega)
    have hmod := Nat.mod_pow_succ (x := k) (b := 2) (k := i)
    have hlt : k % 2 ^ i < 2 ^ i := Nat.mod_lt _ (two_pos i)
    by_cases hb : k / 2 ^ i % 2 = 0
    · refine loop_next' (s' := (f, 3 - f - t, s.set i f, (i : Int) - 1)) ?_ ?_
      · simp only [hanoi_Nth_L1, hanoi_Nth_J3]
        rw [if_pos (by simp), asrt_pos (by omega), hbit, hb, if_pos (by rfl), asrt_pos ⟨by omega, by omega⟩]
        simp only [hanoi_Nth_J4]
        rw [third_w hp, hw]
        rfl
      · rw [nth_loop n1 k hk i (s.set i f) f (3 - f - t) (by omega) (by rw [List.length_set]; omega) (by rw [List.length_set]; exact hn) (pegs1 hp), set_drop s i f (by omega)]
        have : k % 2 ^ (i + 1) = k % 2 ^ i := by rw [hmod, hb]; simp
        rw [this]
        simp only [hst]
        rw [if_pos hlt]
        simp
    · have hb1 : k / 2 ^ i % 2 = 1 := by omega
      refine loop_next' (s' := (3 - f - t, t, s.set i t, (i : Int) - 1)) ?_ ?_
      · simp only [hanoi_Nth_L1, hanoi_Nth_J3]
        rw [if_pos (by simp), asrt_pos (by omega), hbit, hb1, if_neg (by decide), asrt_pos ⟨by omega, by omega⟩]
        simp only [hanoi_Nth_J4]
        rw [third_w hp, hw]
        rfl
      · rw [nth_loop n1 k hk i (s.set i t) (3 - f - t) t (by omega) (by rw [List.length_set]; omega) (by rw [List.length_set]; exact hn) (pegs2 hp), set_drop s i t (by omega)]
        have : k % 2 ^ (i + 1) = k % 2 ^ i + 2 ^ i := by rw [hmod, hb1]; simp
        rw [this]
        simp only [hst]
        rw [if_neg (by omega), Nat.add_sub_cancel]
        simp

theorem sub_w {k q : Nat} (h1 : q ≤ k) (h2 : k < q * 2) (hq : q ≤ 4611686018427387904) : w64 ((k : Int) - (q : Int)) = ((k - q : Nat) : Int) := by
  rw [w64_of ⟨by omega, by omega⟩]
  omega

theorem small_big {n : Nat} (h : n ≤ 41) : (n : Int) + 1 ≤ bigN := by unfold bigN; omega

theorem state_eq (n : Nat) : ∀ (N : Nat) (f t : Int) (k : Nat), n ≤ 40 → n < N → pegs f t → k < 2 ^ n → gameroomref_DiscState_mF N (n : Int) f t (k : Int) = some (hst n f t k) := by
  induction n with
  | zero =>
    intro N f t k _ hN _ _
    obtain ⟨N, rfl⟩ : ∃ M, N = M + 1 := ⟨N - 1, by omega⟩
    simp only [gameroomref_DiscState_mF, gameroomref_DiscState_B]
    rw [if_pos (by rfl)]
    rfl
  | succ n ih =>
    intro N f t k hn hN hp hk
    obtain ⟨N, rfl⟩ : ∃ M, N = M + 1 := ⟨N - 1, by omega⟩
    have e1 : w64 (((n + 1 : Nat) : Int) - 1) = (n : Int) := by rw [w64_of (by omega)]; omega
    simp only [gameroomref_DiscState_mF, gameroomref_DiscState_B]
    rw [if_neg (by simp; omega)]
    unfold gameroomref_DiscState_J1
    rw [e1, asrt_pos (by omega), shl1 n (by omega), third_w hp]
    simp only [hst]
    have hsb : ∀ (f t : Int) (k : Nat), ((hst n f t k).length : Int) + 1 ≤ bigN := fun f t k => by rw [hst_len]; exact small_big (by omega)
    by_cases hlt : k < 2 ^ n
    · rw [if_pos (decide_eq_true (Int.ofNat_lt.mpr hlt)), if_pos hlt, ih N f (3 - f - t) k (by omega) (by omega) (pegs1 hp) hlt]
      rw [Option.bind_some, asrt_pos (hsb _ _ _)]
    · rw [if_neg (by rw [decide_eq_true_eq]; exact fun hh => hlt (Int.ofNat_lt.mp hh)), if_neg hlt]
      unfold gameroomref_DiscState_J2
      have hk2 : k < 2 ^ n * 2 := by rw [← Nat.pow_succ]; exact hk
      rw [e1, shl1 n (by omega), third_w hp, sub_w (Nat.le_of_not_lt hlt) hk2 (pow_lt_big (by omega)), ih N (3 - f - t) t (k - 2 ^ n) (by omega) (by omega) (pegs2 hp) (by omega)]
      rw [Option.bind_some, asrt_pos (hsb _ _ _)]

theorem discState_eq {n : Nat} {f t : Int} {k : Nat} (hn : n ≤ 40) (hp : pegs f t) (hk : k < 2 ^ n) : gameroomref_DiscState_m (n : Int) f t (k : Int) = some (hst n f t k) :=
  gameroomref_DiscState_m_of (n + 1) _ _ _ _ (state_eq n (n + 1) f t k hn (by omega) hp hk)

/-- The number of a state on the way, by its greatest disc, and so on. -/
def regP (s : List Int) : Nat → Int → Int → Option Nat
  | 0, _, _ => some 0
  | i + 1, f, t => if s.getD i 0 = f then regP s i f (3 - f - t) else if s.getD i 0 = t then (regP s i (3 - f - t) t).map (· + 2 ^ i) else none

theorem regP_some {s : List Int} : ∀ (i : Nat) (f t : Int) (q : Nat), i ≤ s.length → regP s i f t = some q → q < 2 ^ i ∧ hst i f t q = s.take i
  | 0, f, t, q, _, h => by simp [regP] at h; subst h; simp [hst]
  | i + 1, f, t, q, hl, h => by
    have hx : s.take (i + 1) = s.take i ++ [s.getD i 0] := by
      rw [List.take_succ_eq_append_getElem (by omega)]
      simp [List.getD_eq_getElem?_getD, List.getElem?_eq_getElem (show i < s.length by omega)]
    have h2 := Nat.pow_succ (n := 2) (m := i)
    simp only [regP] at h
    by_cases h1 : s.getD i 0 = f
    · rw [if_pos h1] at h
      obtain ⟨h3, h4⟩ := regP_some i f (3 - f - t) q (by omega) h
      refine ⟨by omega, ?_⟩
      simp only [hst]
      rw [if_pos h3, h4, hx, h1]
    · rw [if_neg h1] at h
      by_cases h5 : s.getD i 0 = t
      · rw [if_pos h5] at h
        obtain ⟨q', hq, rfl⟩ := Option.map_eq_some_iff.1 h
        obtain ⟨h3, h4⟩ := regP_some i (3 - f - t) t q' (by omega) hq
        refine ⟨by omega, ?_⟩
        simp only [hst]
        rw [if_neg (by omega), Nat.add_sub_cancel, h4, hx, h5]
      · rw [if_neg h5] at h; cases h

theorem reg_loop (s : List Int) (hs : s.length ≤ 40) : ∀ (i : Nat) (f t : Int) (k : Nat), i ≤ s.length → pegs f t → k % 2 ^ i = 0 → k + 2 ^ i ≤ 2 ^ s.length →
    loop (hanoi_Regular_L1 s) (f, t, (k : Int), (i : Int) - 1) = some (match regP s i f t with | some q => Fl.go ((k + q : Nat) : Int) | none => Fl.ret (0, 0, 0))
  | 0, f, t, k, _, _, _, _ => by
    refine loop_done ?_
    simp only [hanoi_Regular_L1]
    rw [if_neg (by simp)]
    rfl
  | i + 1, f, t, k, hl, hp, hk, hb => by
    have e : ((i + 1 : Nat) : Int) - 1 = (i : Int) := by omega
    rw [e]
    have hw : w64 ((i : Int) - 1) = (i : Int) - 1 := w64_of (by omega)
    have h2 := Nat.pow_succ (n := 2) (m := i)
    have hpl := pow_lt_big (i := s.length) (by omega)
    have hki : k % 2 ^ i = 0 := by
      obtain ⟨q, hq⟩ := Nat.dvd_of_mod_eq_zero hk
      rw [hq, h2, Nat.mul_assoc]
      exact Nat.mul_mod_right _ _
    have hstep : hanoi_Regular_L1 s (f, t, (k : Int), (i : Int)) = hanoi_Regular_J3 s f t (k : Int) (i : Int) := by
      simp only [hanoi_Regular_L1]
      rw [if_pos (by simp)]
    have hg : geti s (i : Int) = s.getD i 0 := geti_nat s i
    simp only [regP]
    by_cases h1 : s.getD i 0 = f
    · rw [if_pos h1]
      refine loop_next' (s' := (f, 3 - f - t, (k : Int), (i : Int) - 1)) ?_ ?_
      · rw [hstep]
        unfold hanoi_Regular_J3
        rw [asrt_pos ⟨by omega, by omega⟩, hg, if_pos (beq_iff_eq.2 h1)]
        simp only [hanoi_Regular_J4]
        rw [third_w hp, hw]
      · exact reg_loop s hs i f (3 - f - t) k (by omega) (pegs1 hp) hki (by omega)
    · rw [if_neg h1]
      by_cases h3 : s.getD i 0 = t
      · rw [if_pos h3]
        refine loop_next' (s' := (3 - f - t, t, ((k + 2 ^ i : Nat) : Int), (i : Int) - 1)) ?_ ?_
        · rw [hstep]
          unfold hanoi_Regular_J3
          rw [asrt_pos ⟨by omega, by omega⟩, hg, if_neg (fun h => h1 (beq_iff_eq.1 h)), if_pos (beq_iff_eq.2 h3), asrt_pos (by omega)]
          simp only [hanoi_Regular_J4]
          rw [third_w hp, hw, shl1 i (by omega), bor_pow k i hk (by omega) (by omega)]
        · rw [reg_loop s hs i (3 - f - t) t (k + 2 ^ i) (by omega) (pegs2 hp) (by rw [Nat.add_mod_right]; exact hki) (by omega)]
          cases regP s i (3 - f - t) t with
          | none => rfl
          | some q => simp only [Option.map_some]; rw [show k + 2 ^ i + q = k + (q + 2 ^ i) by omega]
      · rw [if_neg h3]
        refine loop_done ?_
        rw [hstep]
        unfold hanoi_Regular_J3
        rw [asrt_pos ⟨by omega, by omega⟩, hg, if_neg (fun h => h1 (beq_iff_eq.1 h)), if_neg (fun h => h3 (beq_iff_eq.1 h))]

theorem regular_loop (s : List Int) (hs : s.length ≤ 40) (hin : ∀ i, i < s.length → 0 ≤ s.getD i 0 ∧ s.getD i 0 ≤ 2) : ∀ (i : Nat) (f t : Int), i ≤ s.length → pegs f t →
    loop (gameroomlaw_regular_L1 s) (f, t, (i : Int) - 1) = some (match regP s i f t with | some _ => Fl.go () | none => Fl.ret false)
  | 0, f, t, _, _ => by
    refine loop_done ?_
    simp only [gameroomlaw_regular_L1]
    rw [if_neg (by simp)]
    rfl
  | i + 1, f, t, hl, hp => by
    have e : ((i + 1 : Nat) : Int) - 1 = (i : Int) := by omega
    rw [e]
    have hw : w64 ((i : Int) - 1) = (i : Int) - 1 := w64_of (by omega)
    have hb := hin i (by omega)
    have hg : geti s (i : Int) = s.getD i 0 := geti_nat s i
    have hstep : gameroomlaw_regular_L1 s (f, t, (i : Int)) = gameroomlaw_regular_J2 s f t (i : Int) := by
      simp only [gameroomlaw_regular_L1]
      rw [if_pos (by simp)]
    simp only [regP]
    by_cases h0 : s.getD i 0 = 3 - f - t
    · have h1 : s.getD i 0 ≠ f := by unfold pegs at hp; omega
      have h3 : s.getD i 0 ≠ t := by unfold pegs at hp; omega
      rw [if_neg h1, if_neg h3]
      refine loop_done ?_
      rw [hstep]
      unfold gameroomlaw_regular_J2
      rw [asrt_pos ⟨by omega, by omega⟩, hg, third_w hp, if_pos (beq_iff_eq.2 h0)]
    · by_cases h1 : s.getD i 0 = f
      · rw [if_pos h1]
        refine loop_next' (s' := (f, 3 - f - t, (i : Int) - 1)) ?_ (regular_loop s hs hin i f (3 - f - t) (by omega) (pegs1 hp))
        rw [hstep]
        unfold gameroomlaw_regular_J2 gameroomlaw_regular_J4
        rw [asrt_pos ⟨by omega, by omega⟩, hg, third_w hp, if_neg (fun h => h0 (beq_iff_eq.1 h)), asrt_pos ⟨by omega, by omega⟩, if_pos (beq_iff_eq.2 h1)]
        simp only [gameroomlaw_regular_J3]
        rw [hw]
      · have h3 : s.getD i 0 = t := by unfold pegs at hp; omega
        rw [if_neg h1, if_pos h3]
        refine loop_next' (s' := (3 - f - t, t, (i : Int) - 1)) ?_ (by rw [regular_loop s hs hin i (3 - f - t) t (by omega) (pegs2 hp)]; cases regP s i (3 - f - t) t <;> rfl)
        rw [hstep]
        unfold gameroomlaw_regular_J2 gameroomlaw_regular_J4
        rw [asrt_pos ⟨by omega, by omega⟩, hg, third_w hp, if_neg (fun h => h0 (beq_iff_eq.1 h)), asrt_pos ⟨by omega, by omega⟩, if_neg (fun h => h1 (beq_iff_eq.1 h))]
        simp only [gameroomlaw_regular_J3]
        rw [hw]

theorem chk_zero {s : List Int} (h : chk s = 0) : s.length ≤ 40 ∧ ∀ i, i < s.length → 0 ≤ s.getD i 0 ∧ s.getD i 0 ≤ 2 := by
  unfold chk at h
  split at h
  · cases h
  · split at h
    · cases h
    · rename_i h1 h2
      refine ⟨by omega, fun i hi => ?_⟩
      have hx : s[i] ∈ s := List.getElem_mem hi
      have h3 : s.getD i 0 = s[i] := by simp [List.getD_eq_getElem?_getD, hi]
      rw [h3]
      have h4 : offB s[i] = false := by
        cases hb : offB s[i] with
        | false => rfl
        | true => exact absurd (List.any_eq_true.2 ⟨_, hx, hb⟩) h2
      rw [offB_in] at h4
      simpa using h4

theorem pegs02 : pegs 0 2 := by unfold pegs; omega

theorem wlen {s : List Int} (h : s.length ≤ 40) : w64 ((s.length : Int) - 1) = (s.length : Int) - 1 := w64_of (by omega)

theorem reg_eq {s : List Int} (hs : s.length ≤ 17592186044416) : hanoi_Regular_m s = some (if chk s = 0 then (match regP s s.length 0 2 with | some q => ((1 : Int), (q : Int), (0 : Int)) | none => (0, 0, 0)) else (0, 0, chk s)) := by
  unfold hanoi_Regular_m
  rw [check_eq hs]
  simp only [Option.bind_some]
  by_cases hc : chk s = 0
  · rw [if_neg (by simp [hc]), if_pos hc]
    have hl := (chk_zero hc).1
    unfold hanoi_Regular_J1
    rw [wlen hl]
    have := reg_loop s hl s.length 0 2 0 (Nat.le_refl _) pegs02 (Nat.zero_mod _) (by omega)
    rw [show ((0 : Nat) : Int) = 0 from rfl] at this
    rw [this]
    cases regP s s.length 0 2 with
    | none => rfl
    | some q => simp [hanoi_Regular_K1, hanoi_Regular_J2]
  · rw [if_pos (by simpa using hc), if_neg hc]

theorem regular_eq {s : List Int} (hc : chk s = 0) : gameroomlaw_regular_m s = some (regP s s.length 0 2).isSome := by
  obtain ⟨hl, hin⟩ := chk_zero hc
  unfold gameroomlaw_regular_m
  rw [wlen hl, regular_loop s hl hin s.length 0 2 (Nat.le_refl _) pegs02]
  cases regP s s.length 0 2 <;> rfl

theorem J6_true {s : List Int} (hs : s.length ≤ 17592186044416) (hc : chk s = 0) : gameroomlaw_HanoiMoves_J6 s (match regP s s.length 0 2 with | some q => ((1 : Int), (q : Int), (0 : Int)) | none => (0, 0, 0)) = some true := by
  have hr := regular_eq hc
  have hl := (chk_zero hc).1
  cases h : regP s s.length 0 2 with
  | none =>
    unfold gameroomlaw_HanoiMoves_J6 gameroomlaw_HanoiMoves_J7
    rw [h] at hr
    simp [hr]
  | some q =>
    obtain ⟨h1, h2⟩ := regP_some s.length 0 2 q (Nat.le_refl _) h
    rw [List.take_length] at h2
    unfold gameroomlaw_HanoiMoves_J6
    simp only
    have hlt : (decide ((0 : Int) ≤ (q : Int)) && decide ((q : Int) < shlK .i64 1 (s.length : Int))) = true := by
      rw [shl1 _ (by omega)]
      simp only [Bool.and_eq_true, decide_eq_true_eq]
      exact ⟨by omega, Int.ofNat_lt.2 h1⟩
    rw [if_pos (by rfl), asrt_pos (fun _ => by omega), hlt, if_pos rfl, discState_eq hl pegs02 h1, h2]
    simp only [Option.bind_some, if_true]
    rw [sameInts_eq hs]
    simp [gameroomlaw_HanoiMoves_J8]

theorem J3_true {s : List Int} (m1 m2 m3 : Int) (hs : s.length ≤ 17592186044416) (x : List Int × Int) (hx : x = if chk s = 0 then doP s m1 m2 else ([], chk s)) (r5 : Int × Int × Int)
    (h5 : r5 = if chk s = 0 then (match regP s s.length 0 2 with | some q => ((1 : Int), (q : Int), (0 : Int)) | none => (0, 0, 0)) else (0, 0, chk s)) : gameroomlaw_HanoiMoves_J3 s m1 m2 m3 x.1 x.2 r5 = some true := by
  unfold gameroomlaw_HanoiMoves_J3
  rw [discsMay_eq hs]
  simp only [Option.bind_some]
  by_cases hc : chk s = 0
  · rw [if_neg (by simp [hc])]
    rw [if_pos hc] at hx h5
    unfold gameroomlaw_HanoiMoves_J5
    rw [discMove_eq m1 m2 m3 hs, ← hx]
    have hlx : x.1.length ≤ 17592186044416 := by
      rw [hx]
      unfold doP
      split
      · simp
      · split
        · simp
        · split
          · simp
          · simpa using hs
    simp only [Option.bind_some, bne_self_eq_false, Bool.not_false, if_true, sameInts_eq hlx]
    have h52 : r5.2.2 = 0 := by rw [h5]; cases regP s s.length 0 2 <;> rfl
    rw [if_neg (by simp [h52]), h5]
    exact J6_true hs hc
  · rw [if_pos (by simpa using hc)]
    rw [if_neg hc] at hx h5
    subst hx; subst h5
    simp

theorem true_HanoiMoves (s : List Int) (m1 m2 m3 n f t k : Int) (hs : s.length ≤ 17592186043904) (_ : ∀ y ∈ s, inI y) (_ : inI m1) (_ : inI m2) (_ : inI m3) (hn : inI n) (_ : inI f) (_ : inI t) (hk : inI k) :
    gameroomlaw_HanoiMoves_m s m1 m2 m3 n f t k = some true := by
  have hs' : s.length ≤ 17592186044416 := by omega
  unfold gameroomlaw_HanoiMoves_m
  rw [ints_eq hs']
  simp only [Option.bind_some]
  have hdo : hanoi_Do_m s m1 m2 m3 = some (if chk s = 0 then doP s m1 m2 else ([], chk s)) := by
    by_cases hc : chk s = 0
    · rw [if_pos hc]; exact do_eq m1 m2 m3 hs' hc
    · rw [if_neg hc]
      unfold hanoi_Do_m
      rw [check_eq hs']
      simp only [Option.bind_some]
      rw [if_pos (by simpa using hc)]
  rw [hdo]
  simp only [Option.bind_some]
  unfold gameroomlaw_HanoiMoves_J1
  have J3 := fun r5 h5 => J3_true m1 m2 m3 hs' _ rfl r5 h5
  have hJ3 := J3 _ rfl
  have J8 : ∀ (x : List Int) (e : Int) (r5 : Int × Int × Int), gameroomlaw_HanoiMoves_J3 s m1 m2 m3 x e r5 = some true → ∀ z, z = false → gameroomlaw_HanoiMoves_J4 s m1 m2 m3 x e r5 z = some true := by
    intro x e r5 h z hz
    subst hz
    unfold gameroomlaw_HanoiMoves_J4
    simpa using h
  -- Nth, case by case
  unfold hanoi_Nth_m
  by_cases c1 : n < 0 ∨ 40 < n
  · have b1 : (decide (n < 0) || decide ((40 : Int) < n)) = true := by simpa using c1
    rw [b1]
    simp only [if_true, Option.bind_some, ints_eq hs', reg_eq hs']
    unfold gameroomlaw_HanoiMoves_J2
    rw [if_pos (by rfl), if_neg (by simp)]
    exact hJ3
  · have b1 : (decide (n < 0) || decide ((40 : Int) < n)) = false := by simpa using c1
    rw [b1]
    simp only [Bool.false_eq_true, if_false, Option.bind_some, hanoi_off_m]
    have e3 : ∀ (x y z : Bool) (R : Option (List Int × Int)), (if (!x) = true then some y else some false).bind (fun r3 => if ((x || r3) || z) = true then some (([] : List Int), (5 : Int)) else R) = if (x || y || z) = true then some ([], 5) else R := by
      intro x y z R
      cases x <;> simp
    rw [e3]
    have e4 : ((((decide (f < 0) || decide ((2 : Int) < f)) || decide (t < 0)) || decide ((2 : Int) < t)) || (f == t)) = (((decide (f < 0) || decide ((2 : Int) < f)) || (decide (t < 0) || decide ((2 : Int) < t))) || (f == t)) := by
      rw [Bool.or_assoc (_ || _) (decide (t < 0))]
    rw [e4]
    by_cases c2 : (((decide (f < 0) || decide ((2 : Int) < f)) || (decide (t < 0) || decide ((2 : Int) < t))) || (f == t)) = true
    · rw [c2]
      simp only [if_true, Option.bind_some, ints_eq hs', reg_eq hs']
      unfold gameroomlaw_HanoiMoves_J2
      rw [if_pos (by rfl), if_neg (by simp)]
      exact hJ3
    · have c2' := Bool.eq_false_iff.2 c2
      rw [c2']
      simp only [Bool.false_eq_true, if_false]
      have hp : pegs f t := by
        unfold pegs
        simp only [Bool.or_eq_false_iff, decide_eq_false_iff_not, beq_eq_false_iff_ne] at c2'
        omega
      obtain ⟨m, rfl⟩ := Int.eq_ofNat_of_zero_le (show 0 ≤ n by omega)
      have hm : m ≤ 40 := by omega
      rw [asrt_pos (fun _ => by omega), shl1 m (by omega)]
      by_cases c3 : k < 0 ∨ ((2 ^ m : Nat) : Int) ≤ k
      · have b3 : (decide (k < 0) || decide (((2 ^ m : Nat) : Int) ≤ k)) = true := by simpa using c3
        rw [b3]
        simp only [if_true, Option.bind_some, ints_eq hs', reg_eq hs']
        rw [asrt_pos (fun _ => by omega)]
        unfold gameroomlaw_HanoiMoves_J2
        rw [if_pos (by rfl), if_neg (by simp)]
        exact hJ3
      · have b3 : (decide (k < 0) || decide (((2 ^ m : Nat) : Int) ≤ k)) = false := by simpa using c3
        rw [b3]
        simp only [Bool.false_eq_true, if_false]
        obtain ⟨q, rfl⟩ := Int.eq_ofNat_of_zero_le (show 0 ≤ k by omega)
        have hq : q < 2 ^ m := by omega
        have hpl := pow_lt_big (i := m) (by omega)
        unfold hanoi_Nth_J1
        rw [asrt_pos ⟨by omega, by unfold bigN; omega⟩]
        have hw : w64 ((m : Int) - 1) = (m : Int) - 1 := w64_of (by omega)
        have hloop := nth_loop (m : Int) q (by omega) m (List.replicate (Int.toNat (m : Int)) 0) f t hm (by simp) (by simp) hp
        rw [hw, hloop]
        rw [Nat.mod_eq_of_lt hq, List.drop_of_length_le (by simp), List.append_nil]
        simp only [Option.bind_some, hanoi_Nth_K1, hanoi_Nth_J2, ints_eq hs', reg_eq hs']
        rw [asrt_pos (fun _ => by omega)]
        unfold gameroomlaw_HanoiMoves_J2
        rw [if_neg (by decide), if_neg (by simp), discState_eq hm hp hq]
        simp only [Option.bind_some]
        rw [if_pos (by rfl), sameInts_eq (by rw [hst_len]; omega)]
        simp only [Option.bind_some]
        exact J8 _ _ _ hJ3 _ (by simp)
end Go.Proofs.Ytbmhcapeikebgaa
