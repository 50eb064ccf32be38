/-
  ClockTexts: reading a time, on both sides; the law.
-/
import Derived.Test.YtdbdcbejmbpbmaaDoorCTb
namespace Go.Proofs.YtdbdcbejmbpbmaaDoor
open Go Go.GL

/-- What comes of the parts. -/
noncomputable def prL (k : Nat) (mul : Int) : List (List UInt8) → Int → Fl Int (Int × Int)
  | [], n => .go n
  | p :: r, n => if (atoiE p || decide ((2 : Int) < (p.length : Int))) || decide ((3 : Int) < (k : Int)) then .ret (0, 1) else prL k mul r (w64 (w64 (n * mul) + atoiN p))
def mulOf (unit : Int) : Int := if unit == 100 then 10 else 60
theorem parse_loop {parts : List (List UInt8)} {unit : Int} (hk : parts.length ≤ 4194305) (hp : ∀ p ∈ parts, p.length ≤ 4194304) : ∀ (rest : List (List UInt8)) (z : Nat) (n : Int), parts.drop z = rest → z ≤ parts.length → loop (clock_Read_L1 parts unit) (n, (z : Int)) = some (prL parts.length (mulOf unit) rest n)
  | [], z, n, h, hz => by
    have : parts.length ≤ z := by
      have := congrArg List.length h
      simp at this
      omega
    refine loop_done ?_
    show (if (decide ((z : Int) < (parts.length : Int))) then _ else _) = _
    rw [if_neg (by simp; omega)]
    rfl
  | p :: r, z, n, h, hz => by
    have hlt : z < parts.length := by
      have := congrArg List.length h
      simp at this
      omega
    have hg : parts[z]? = some p := by
      have := congrArg (fun l => l[0]?) h
      simpa using this
    have hm : p ∈ parts := List.mem_of_getElem? hg
    have hd : parts.drop (z + 1) = r := by
      rw [← List.drop_drop, h]
      rfl
    have hpl := hp p hm
    have hs : clock_Read_L1 parts unit (n, (z : Int)) = if (atoiE p || decide ((2 : Int) < (p.length : Int))) || decide ((3 : Int) < (parts.length : Int)) then some (.done (.ret (0, 1))) else some (.next (w64 (w64 (n * mulOf unit) + atoiN p), ((z + 1 : Nat) : Int))) := by
      show (if (decide ((z : Int) < (parts.length : Int))) then _ else _) = _
      rw [if_pos (decide_eq_true (by omega))]
      unfold clock_Read_J3 strconv_Atoi_m
      rw [asrt_pos (by omega), getd_some hg, asrt_pos (by omega), Option.bind_some]
      simp only
      split
      · rfl
      · unfold clock_Read_J5 clock_Read_J4 mulOf
        rw [show w64 ((z : Int) + 1) = ((z + 1 : Nat) : Int) by rw [w64_of (by omega)]; omega]
        split <;> rfl
    unfold prL
    split
    · rename_i q
      rw [if_pos q] at hs
      exact loop_done hs
    · rename_i q
      rw [if_neg q] at hs
      exact loop_next' hs (parse_loop hk hp r (z + 1) _ hd (by omega))

/-- What a text says: the parts and the unit. -/
theorem Read_eq {s : List UInt8} (hs : s.length ≤ 1048576) : clock_Read_m s = clock_Read_K1 s (if (spC 58 s).length = 1 then 100 else 1000) (if (spC 58 s).length = 1 then prL (spC 46 s).length 10 (spC 46 s) 0 else prL (spC 58 s).length 60 (spC 58 s) 0) := by
  unfold clock_Read_m strings_Split_m
  rw [asrt_pos ⟨by omega, by simp⟩, asrt_pos ⟨by omega, by simp⟩, Option.bind_some, splitM_spC, splitM_spC]
  have c1 := List.count_le_length (a := (58 : UInt8)) (l := s)
  have c2 := List.count_le_length (a := (46 : UInt8)) (l := s)
  have l1 := spC_len 58 s
  have l2 := spC_len 46 s
  by_cases q : (spC 58 s).length = 1
  · rw [if_pos q, if_pos q, if_pos (by rw [q]; rfl), Option.bind_some]
    unfold clock_Read_J1
    rw [show ((0 : Int), (0 : Int)) = (0, ((0 : Nat) : Int)) from rfl, parse_loop (unit := 100) (by omega) (fun p hp => Nat.le_trans (spC_mem_len 46 s p hp) (by omega)) (spC 46 s) 0 0 rfl (by omega), Option.bind_some]
    rfl
  · rw [if_neg q, if_neg q, if_neg (by intro e; have := beq_iff_eq.1 e; omega)]
    unfold clock_Read_J1
    rw [show ((0 : Int), (0 : Int)) = (0, ((0 : Nat) : Int)) from rfl, parse_loop (unit := 1000) (by omega) (fun p hp => Nat.le_trans (spC_mem_len 58 s p hp) (by omega)) (spC 58 s) 0 0 rfl (by omega), Option.bind_some]
    rfl

/-- The number is small, so nothing wraps. -/
def bdN : Nat → Int
  | 0 => 0
  | 1 => 99
  | 2 => 6039
  | _ => 362439
theorem prL_bd {k : Nat} {mul : Int} (hm : mul = 10 ∨ mul = 60) : ∀ (ps : List (List UInt8)) (n v : Int) (b : Nat), (k ≤ 3 → ps.length + b ≤ 3) → b ≤ 3 → -(bdN b) ≤ n ∧ n ≤ bdN b → prL k mul ps n = .go v → -(362439 : Int) ≤ v ∧ v ≤ 362439
  | [], n, v, b, _, hb, hn, h => by
    unfold prL at h
    have e : n = v := Fl.go.inj h
    subst e
    have : b = 0 ∨ b = 1 ∨ b = 2 ∨ b = 3 := by omega
    rcases this with rfl | rfl | rfl | rfl <;> simp only [bdN] at hn <;> omega
  | p :: r, n, v, b, hl, hb, hn, h => by
    unfold prL at h
    split at h
    · cases h
    · rename_i q
      simp only [Bool.or_eq_true, decide_eq_true_eq, not_or, Bool.not_eq_true] at q
      have bd := atoi_bd (p := p) (by omega) q.1.1
      have hl := hl (by omega)
      rw [List.length_cons] at hl
      refine prL_bd hm r _ v (b + 1) (fun _ => by omega) (by omega) ?_ h
      have : b = 0 ∨ b = 1 ∨ b = 2 := by omega
      rcases this with rfl | rfl | rfl <;> rcases hm with rfl | rfl <;> simp only [bdN] at hn ⊢ <;> (rw [w64_of (x := n * _) (by omega), w64_of (by omega)]; omega)

/-- The times that are shown each by a text of its own. -/
def Can (t : Nat) : Prop := (t < 60000 ∧ t % 100 = 0) ∨ (60000 ≤ t ∧ t ≤ 36000000 ∧ t % 1000 = 0)

theorem K1_eq (s : List UInt8) (unit n : Int) : clock_Read_K1 s unit (.go n) = clock_Read_J2 s unit n := rfl

/-- What the program reads is shown so. -/
theorem Read_sound {s : List UInt8} (hs : s.length ≤ 1048576) : ∃ v e, clock_Read_m s = some (v, e) ∧ ((v = 0 ∧ e = 1) ∨ (e = 0 ∧ ∃ t : Nat, v = (t : Int) ∧ Can t ∧ TT t = s)) := by
  rw [Read_eq hs]
  have tail : ∀ (unit n : Int), -(362439 : Int) ≤ n ∧ n ≤ 362439 → (unit = 100 ∧ 58 ∉ s ∨ unit = 1000 ∧ 58 ∈ s) → ∃ v e, clock_Read_J2 s unit n = some (v, e) ∧ ((v = 0 ∧ e = 1) ∨ (e = 0 ∧ ∃ t : Nat, v = (t : Int) ∧ Can t ∧ TT t = s)) := by
    intro unit n hn hu
    unfold clock_Read_J2 clock_Read_J6
    have hw : w64 (n * unit) = n * unit := by
      rcases hu with ⟨rfl, _⟩ | ⟨rfl, _⟩ <;> exact w64_of (by omega)
    rw [hw]
    by_cases hf : n * unit < 0 ∨ 36000000 < n * unit
    · rw [Show_far hf, Option.bind_some]
      exact ⟨0, 1, rfl, .inl ⟨rfl, rfl⟩⟩
    · obtain ⟨t, ht⟩ : ∃ t : Nat, n * unit = (t : Int) := ⟨(n * unit).toNat, by omega⟩
      rw [ht, Show_p (by omega), Option.bind_some]
      by_cases q : TT t = s
      · rw [if_neg (by simp [q])]
        refine ⟨(t : Int), 0, rfl, .inr ⟨rfl, t, rfl, ?_, q⟩⟩
        have hc := TT_colon (t := t) (by omega)
        rw [q] at hc
        rcases hu with ⟨rfl, hno⟩ | ⟨rfl, hyes⟩
        · have : ¬ 60000 ≤ t := fun e => hno (hc.2 e)
          exact .inl ⟨by omega, by omega⟩
        · have := hc.1 hyes
          exact .inr ⟨this, by omega, by omega⟩
      · rw [if_pos (by simp [q])]
        exact ⟨0, 1, rfl, .inl ⟨rfl, rfl⟩⟩
  have hcol := spC_len 58 s
  have hcnt : s.count 58 = 0 ↔ 58 ∉ s := List.count_eq_zero
  by_cases q : (spC 58 s).length = 1
  · rw [if_pos q, if_pos q]
    cases h : prL (spC 46 s).length 10 (spC 46 s) 0 with
    | ret r =>
      have : ∀ (k : Nat) (mul : Int) (ps : List (List UInt8)) (n : Int) r, prL k mul ps n = .ret r → r = (0, 1) := by
        intro k mul ps
        induction ps with
        | nil => intro n r h; cases h
        | cons p ps ih =>
          intro n r h
          unfold prL at h
          split at h
          · exact (Fl.ret.inj h).symm
          · exact ih _ _ h
      have := this _ _ _ _ _ h
      subst this
      exact ⟨0, 1, rfl, .inl ⟨rfl, rfl⟩⟩
    | go n =>
      rw [K1_eq]
      exact tail 100 n (prL_bd (.inl rfl) _ _ _ 0 (fun h3 => by omega) (by omega) (by simp [bdN]) h) (.inl ⟨rfl, hcnt.1 (by omega)⟩)
  · rw [if_neg q, if_neg q]
    cases h : prL (spC 58 s).length 60 (spC 58 s) 0 with
    | ret r =>
      have : ∀ (k : Nat) (mul : Int) (ps : List (List UInt8)) (n : Int) r, prL k mul ps n = .ret r → r = (0, 1) := by
        intro k mul ps
        induction ps with
        | nil => intro n r h; cases h
        | cons p ps ih =>
          intro n r h
          unfold prL at h
          split at h
          · exact (Fl.ret.inj h).symm
          · exact ih _ _ h
      have := this _ _ _ _ _ h
      subst this
      exact ⟨0, 1, rfl, .inl ⟨rfl, rfl⟩⟩
    | go n =>
      rw [K1_eq]
      refine tail 1000 n (prL_bd (.inr rfl) _ _ _ 0 (fun h3 => by omega) (by omega) (by simp [bdN]) h) (.inr ⟨rfl, ?_⟩)
      refine Classical.byContradiction fun e => ?_
      have := hcnt.2 e
      omega

theorem prL_ok {k : Nat} {mul n : Int} {p : List UInt8} {r : List (List UInt8)} (hk : k ≤ 3) (hp : p.length ≤ 2) (he : atoiE p = false) : prL k mul (p :: r) n = prL k mul r (w64 (w64 (n * mul) + atoiN p)) := by
  conv => lhs; unfold prL
  rw [he, show decide ((2 : Int) < (p.length : Int)) = false from decide_eq_false (by omega), show decide ((3 : Int) < (k : Int)) = false from decide_eq_false (by omega)]
  rfl
/-- What is shown is read. -/
theorem Read_shown {t : Nat} (h : Can t) : clock_Read_m (TT t) = some ((t : Int), 0) := by
  have ht : t ≤ 36000000 := by unfold Can at h; omega
  have hl := TT_len t
  rw [Read_eq (by omega)]
  have hc := TT_colon ht
  have hlen := spC_len 58 (TT t)
  have hcnt : (TT t).count 58 = 0 ↔ 58 ∉ TT t := List.count_eq_zero
  have fin : ∀ (unit n : Int), n * unit = (t : Int) → -(1000000 : Int) ≤ n ∧ n ≤ 1000000 → (unit = 100 ∨ unit = 1000) → clock_Read_J2 (TT t) unit n = some ((t : Int), 0) := by
    intro unit n hn hb hu
    unfold clock_Read_J2 clock_Read_J6
    rw [hn, w64_of (x := (t : Int)) (by omega), Show_p ht, Option.bind_some, if_neg (by simp)]
  by_cases q : 60000 ≤ t
  · have h1 : ¬ (spC 58 (TT t)).length = 1 := fun e => by
      have := hcnt.1 (by omega)
      exact this (hc.2 q)
    have h0 : t % 1000 = 0 := by unfold Can at h; omega
    rw [if_neg h1, if_neg h1]
    by_cases q2 : 3600 ≤ t / 1000
    · have hsp : spC 58 (TT t) = [D1 (t / 1000 / 3600), D2 (t / 1000 / 60 % 60), D2 (t / 1000 % 60)] := by
        unfold TT
        rw [if_pos q2, spC_app (D1_no (by omega)).1, spC_app (D2_no (by omega)).1, spC_no (D2_no (by omega)).1]
      have a1 := atoi_D1 (n := t / 1000 / 3600) (by omega)
      have a2 := atoi_D2 (n := t / 1000 / 60 % 60) (by omega)
      have a3 := atoi_D2 (n := t / 1000 % 60) (by omega)
      rw [hsp, prL_ok (by simp) (D1_len _) a1.2, prL_ok (by simp) (by simp [D2]) a2.2, prL_ok (by simp) (by simp [D2]) a3.2, a1.1, a2.1, a3.1]
      unfold prL
      rw [K1_eq]
      have e1 : w64 (w64 ((0 : Int) * 60) + ((t / 1000 / 3600 : Nat) : Int)) = ((t / 1000 / 3600 : Nat) : Int) := by rw [w64_of (x := (0 : Int) * 60) (by omega), w64_of (by omega)]; omega
      have e2 : w64 (w64 (((t / 1000 / 3600 : Nat) : Int) * 60) + ((t / 1000 / 60 % 60 : Nat) : Int)) = ((t / 1000 / 60 : Nat) : Int) := by rw [w64_of (x := ((t / 1000 / 3600 : Nat) : Int) * 60) (by omega), w64_of (by omega)]; omega
      have e3 : w64 (w64 (((t / 1000 / 60 : Nat) : Int) * 60) + ((t / 1000 % 60 : Nat) : Int)) = ((t / 1000 : Nat) : Int) := by rw [w64_of (x := ((t / 1000 / 60 : Nat) : Int) * 60) (by omega), w64_of (by omega)]; omega
      rw [e1, e2, e3]
      exact fin 1000 _ (by omega) (by omega) (.inr rfl)
    · have hsp : spC 58 (TT t) = [D1 (t / 1000 / 60), D2 (t / 1000 % 60)] := by
        unfold TT
        rw [if_neg q2, if_pos (by omega), spC_app (D1_no (by omega)).1, spC_no (D2_no (by omega)).1]
      have a1 := atoi_D1 (n := t / 1000 / 60) (by omega)
      have a3 := atoi_D2 (n := t / 1000 % 60) (by omega)
      rw [hsp, prL_ok (by simp) (D1_len _) a1.2, prL_ok (by simp) (by simp [D2]) a3.2, a1.1, a3.1]
      unfold prL
      rw [K1_eq]
      have e1 : w64 (w64 ((0 : Int) * 60) + ((t / 1000 / 60 : Nat) : Int)) = ((t / 1000 / 60 : Nat) : Int) := by rw [w64_of (x := (0 : Int) * 60) (by omega), w64_of (by omega)]; omega
      have e3 : w64 (w64 (((t / 1000 / 60 : Nat) : Int) * 60) + ((t / 1000 % 60 : Nat) : Int)) = ((t / 1000 : Nat) : Int) := by rw [w64_of (x := ((t / 1000 / 60 : Nat) : Int) * 60) (by omega), w64_of (by omega)]; omega
      rw [e1, e3]
      exact fin 1000 _ (by omega) (by omega) (.inr rfl)
  · have h1 : (spC 58 (TT t)).length = 1 := by
      have := hcnt.2 (fun e => q (hc.1 e))
      omega
    have h0 : t % 100 = 0 := by unfold Can at h; omega
    rw [if_pos h1, if_pos h1]
    have hsp : spC 46 (TT t) = [D1 (t / 1000), D1 (t / 100 % 10)] := by
      unfold TT
      rw [if_neg (by omega), if_neg (by omega), spC_app (D1_no (by omega)).2, spC_no (D1_no (by omega)).2]
    have a1 := atoi_D1 (n := t / 1000) (by omega)
    have a3 := atoi_D1 (n := t / 100 % 10) (by omega)
    rw [hsp, prL_ok (by simp) (D1_len _) a1.2, prL_ok (by simp) (D1_len _) a3.2, a1.1, a3.1]
    unfold prL
    rw [K1_eq]
    have e1 : w64 (w64 ((0 : Int) * 10) + ((t / 1000 : Nat) : Int)) = ((t / 1000 : Nat) : Int) := by rw [w64_of (x := (0 : Int) * 10) (by omega), w64_of (by omega)]; omega
    have e3 : w64 (w64 (((t / 1000 : Nat) : Int) * 10) + ((t / 100 % 10 : Nat) : Int)) = ((t / 100 : Nat) : Int) := by rw [w64_of (x := ((t / 1000 : Nat) : Int) * 10) (by omega), w64_of (by omega)]; omega
    rw [e1, e3]
    exact fin 100 _ (by omega) (by omega) (.inl rfl)

set_option maxRecDepth 10000 in
/-- The document's search. -/
theorem ReadTime_p (s : List UInt8) : ∃ r, gameroomref_ReadTime_m s = some r ∧ ((r = -1 ∧ ∀ t, Can t → TT t ≠ s) ∨ ∃ t : Nat, r = (t : Int) ∧ Can t ∧ TT t = s) := by
  -- the later times
  have late : (∀ t, t < 60000 → t % 100 = 0 → TT t ≠ s) → ∃ r, gameroomref_ReadTime_J1 s = some r ∧ ((r = -1 ∧ ∀ t, Can t → TT t ≠ s) ∨ ∃ t : Nat, r = (t : Int) ∧ Can t ∧ TT t = s) := by
    intro hno
    have st2 : ∀ i, i < 35941 → gameroomref_ReadTime_L2 s ((60000 + 1000 * i : Nat) : Int) = if TT (60000 + 1000 * i) = s then some (.done (.ret ((60000 + 1000 * i : Nat) : Int))) else some (.next ((60000 + 1000 * (i + 1) : Nat) : Int)) := by
      intro i hi
      show (if (decide (((60000 + 1000 * i : Nat) : Int) ≤ 36000000)) then gameroomref_ReadTime_J5 s ((60000 + 1000 * i : Nat) : Int) else some (.done (.go ()))) = _
      rw [if_pos (decide_eq_true (by omega))]
      unfold gameroomref_ReadTime_J5 gameroomref_ReadTime_J6
      rw [Text_p (by omega), Option.bind_some, w64_of (by omega), show ((60000 + 1000 * i : Nat) : Int) + 1000 = ((60000 + 1000 * (i + 1) : Nat) : Int) by omega]
      by_cases q : TT (60000 + 1000 * i) = s
      · rw [if_pos (by simp [q]), if_pos q]
      · rw [if_neg (by simp [q]), if_neg q]
    have end2 : gameroomref_ReadTime_L2 s ((60000 + 1000 * 35941 : Nat) : Int) = some (.done (.go ())) := by
      show (if (decide (((60000 + 1000 * 35941 : Nat) : Int) ≤ 36000000)) then gameroomref_ReadTime_J5 s ((60000 + 1000 * 35941 : Nat) : Int) else some (.done (.go ()))) = _
      exact if_neg (by simp)
    obtain ⟨x, hx, hP⟩ := count_loop (step := gameroomref_ReadTime_L2 s) (fun (_ : Unit) i => ((60000 + 1000 * i : Nat) : Int)) (fun i _ => ∀ j, j < i → TT (60000 + 1000 * j) ≠ s)
      (fun x => (x = .go () ∧ ∀ j, j < 35941 → TT (60000 + 1000 * j) ≠ s) ∨ ∃ j : Nat, j < 35941 ∧ x = .ret ((60000 + 1000 * j : Nat) : Int) ∧ TT (60000 + 1000 * j) = s) 35941 () (fun j hj => absurd hj (Nat.not_lt_zero _))
      (fun i _ hi hI => by
        rw [st2 i hi]
        by_cases q : TT (60000 + 1000 * i) = s
        · exact .inr ⟨_, if_pos q, .inr ⟨i, hi, rfl, q⟩⟩
        · refine .inl ⟨(), if_neg q, fun j hj => ?_⟩
          by_cases e : j = i
          · subst e; exact q
          · exact hI j (by omega))
      (fun _ hI => ⟨.go (), end2, .inl ⟨rfl, hI⟩⟩)
    unfold gameroomref_ReadTime_J1
    rw [show (60000 : Int) = ((60000 + 1000 * 0 : Nat) : Int) from rfl, hx, Option.bind_some]
    rcases hP with ⟨rfl, hall⟩ | ⟨j, hj, rfl, hj2⟩
    · refine ⟨-1, rfl, .inl ⟨rfl, fun t ht => ?_⟩⟩
      rcases ht with ⟨h1, h2⟩ | ⟨h1, h2, h3⟩
      · exact hno t h1 h2
      · have := hall ((t - 60000) / 1000) (by omega)
        rwa [show 60000 + 1000 * ((t - 60000) / 1000) = t by omega] at this
    · exact ⟨_, rfl, .inr ⟨_, rfl, .inr ⟨by omega, by omega, by omega⟩, hj2⟩⟩
  have st1 : ∀ i, i < 600 → gameroomref_ReadTime_L1 s ((100 * i : Nat) : Int) = if TT (100 * i) = s then some (.done (.ret ((100 * i : Nat) : Int))) else some (.next ((100 * (i + 1) : Nat) : Int)) := by
    intro i hi
    show (if (decide (((100 * i : Nat) : Int) < 60000)) then gameroomref_ReadTime_J2 s ((100 * i : Nat) : Int) else some (.done (.go ()))) = _
    rw [if_pos (decide_eq_true (by omega))]
    unfold gameroomref_ReadTime_J2 gameroomref_ReadTime_J3
    rw [Text_p (by omega), Option.bind_some, w64_of (by omega), show ((100 * i : Nat) : Int) + 100 = ((100 * (i + 1) : Nat) : Int) by omega]
    by_cases q : TT (100 * i) = s
    · rw [if_pos (by simp [q]), if_pos q]
    · rw [if_neg (by simp [q]), if_neg q]
  have end1 : gameroomref_ReadTime_L1 s ((100 * 600 : Nat) : Int) = some (.done (.go ())) := by
    show (if (decide (((100 * 600 : Nat) : Int) < 60000)) then gameroomref_ReadTime_J2 s ((100 * 600 : Nat) : Int) else some (.done (.go ()))) = _
    exact if_neg (by simp)
  obtain ⟨x, hx, hP⟩ := count_loop (step := gameroomref_ReadTime_L1 s) (fun (_ : Unit) i => ((100 * i : Nat) : Int)) (fun i _ => ∀ j, j < i → TT (100 * j) ≠ s)
    (fun x => (x = .go () ∧ ∀ j, j < 600 → TT (100 * j) ≠ s) ∨ ∃ j : Nat, j < 600 ∧ x = .ret ((100 * j : Nat) : Int) ∧ TT (100 * j) = s) 600 () (fun j hj => absurd hj (Nat.not_lt_zero _))
    (fun i _ hi hI => by
      rw [st1 i hi]
      by_cases q : TT (100 * i) = s
      · exact .inr ⟨_, if_pos q, .inr ⟨i, hi, rfl, q⟩⟩
      · refine .inl ⟨(), if_neg q, fun j hj => ?_⟩
        by_cases e : j = i
        · subst e; exact q
        · exact hI j (by omega))
    (fun _ hI => ⟨.go (), end1, .inl ⟨rfl, hI⟩⟩)
  unfold gameroomref_ReadTime_m
  rw [show (0 : Int) = ((100 * 0 : Nat) : Int) from rfl, hx, Option.bind_some]
  rcases hP with ⟨rfl, hall⟩ | ⟨j, hj, rfl, hj2⟩
  · refine late fun t h1 h2 => ?_
    have := hall (t / 100) (by omega)
    rwa [show 100 * (t / 100) = t by omega] at this
  · exact ⟨_, rfl, .inr ⟨_, rfl, .inl ⟨by omega, by omega⟩, hj2⟩⟩

theorem true_ClockTexts (t : Int) (s : List UInt8) (_ht : inI t) (hs : s.length ≤ 1048576) : gameroomlaw_ClockTexts_m t s = some true := by
  obtain ⟨v, e, hr, hrd⟩ := Read_sound hs
  have tail : gameroomlaw_ClockTexts_J1 s (v, e) = some true := by
    unfold gameroomlaw_ClockTexts_J1 gameroomlaw_ClockTexts_J2
    obtain ⟨r, hq, hqd⟩ := ReadTime_p s
    rw [hq, Option.bind_some]
    rcases hqd with ⟨rfl, hno⟩ | ⟨u, rfl, hc, hu⟩
    · rw [if_pos (by decide)]
      rcases hrd with ⟨rfl, rfl⟩ | ⟨rfl, t', rfl, hc', ht'⟩
      · rfl
      · exact absurd ht' (hno t' hc')
    · rw [if_neg (by simp)]
      have := Read_shown hc
      rw [hu, hr] at this
      have := Option.some.inj this
      rw [this]
      simp
  unfold gameroomlaw_ClockTexts_m
  by_cases q : t < 0 ∨ 36000000 < t
  · rw [Show_far q, Option.bind_some, hr, Option.bind_some, if_pos (by simpa using q), if_neg (by decide)]
    exact tail
  · obtain ⟨k, rfl⟩ : ∃ k : Nat, t = (k : Int) := ⟨t.toNat, by omega⟩
    rw [Show_p (by omega), Option.bind_some, hr, Option.bind_some, if_neg (by simp; omega), if_pos (by rfl), Text_p (by omega), Option.bind_some, if_neg (by simp)]
    exact tail
end Go.Proofs.YtdbdcbejmbpbmaaDoor
