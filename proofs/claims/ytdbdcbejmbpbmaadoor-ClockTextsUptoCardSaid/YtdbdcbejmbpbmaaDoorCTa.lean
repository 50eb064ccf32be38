/-
  ClockTexts: a time as it is shown, on both sides.
-/
import Derived.Test.YtdbdcbejmbpbmaaDoorNCT
import Derived.Test.YtdbdcbejmbpbmaaDoorLibX
import Derived.Test.YtdbdcbejmbpbmaaDoorLibY
namespace Go.Proofs.YtdbdcbejmbpbmaaDoor
open Go Go.GL

/-- A digit. -/
def dg (n : Nat) : UInt8 := UInt8.ofNat (48 + n)
/-- A number below 100. -/
def D1 (n : Nat) : List UInt8 := if n < 10 then [dg n] else [dg (n / 10), dg (n % 10)]
/-- Two digits. -/
def D2 (n : Nat) : List UInt8 := [dg (n / 10), dg (n % 10)]
/-- A time. -/
def TT (t : Nat) : List UInt8 :=
  if 3600 ≤ t / 1000 then D1 (t / 1000 / 3600) ++ 58 :: (D2 (t / 1000 / 60 % 60) ++ 58 :: D2 (t / 1000 % 60))
  else if 60 ≤ t / 1000 then D1 (t / 1000 / 60) ++ 58 :: D2 (t / 1000 % 60)
  else D1 (t / 1000) ++ 46 :: D1 (t / 100 % 10)

theorem D1_len (n : Nat) : (D1 n).length ≤ 2 := by unfold D1; split <;> simp
theorem TT_len (t : Nat) : (TT t).length ≤ 8 := by
  have := D1_len (t / 1000 / 3600)
  have := D1_len (t / 1000 / 60)
  have := D1_len (t / 1000)
  have := D1_len (t / 100 % 10)
  unfold TT
  split
  · simp [D2]; omega
  · split
    · simp [D2]; omega
    · simp; omega

theorem dec_lt {n : Nat} (h : n < 10) : Lib.decDigits n = [dg n] := by rw [Lib.decDigits, dif_pos h]; rfl
theorem dec_ge {n : Nat} (h : ¬ n < 10) : Lib.decDigits n = Lib.decDigits (n / 10) ++ [dg (n % 10)] := by rw [Lib.decDigits, dif_neg h]; rfl
theorem itoa_D1 {n : Nat} (h : n < 100) : itoaL (n : Int) = D1 n := by
  unfold itoaL Lib.itoa D1
  rw [if_neg (by omega), Int.toNat_natCast]
  by_cases q : n < 10
  · rw [if_pos q, dec_lt q]
  · rw [if_neg q, dec_ge q, dec_lt (by omega)]; rfl
theorem itoa_100 {n : Nat} (h : n < 100) : itoaL ((100 + n : Nat) : Int) = 49 :: D2 n := by
  unfold itoaL Lib.itoa D2
  rw [if_neg (by omega), Int.toNat_natCast, dec_ge (by omega), dec_ge (by omega), dec_lt (by omega)]
  rw [show (100 + n) / 10 / 10 = 1 by omega, show (100 + n) / 10 % 10 = n / 10 by omega, show (100 + n) % 10 = n % 10 by omega]
  rfl

theorem td (a b : Nat) : Int.tdiv (a : Int) (b : Int) = ((a / b : Nat) : Int) := (Int.ofNat_tdiv a b).symm
theorem tm (a b : Nat) : Int.tmod (a : Int) (b : Int) = ((a % b : Nat) : Int) := (Int.ofNat_tmod a b).symm
theorem w64n {n : Nat} (h : n < 4000000000000000) : w64 (n : Int) = (n : Int) := w64_of (by omega)

theorem Itoa_p {n : Nat} (h : n < 100) : strconv_Itoa_m (n : Int) = some (D1 n) := by
  unfold strconv_Itoa_m
  rw [asrt_pos (by omega), itoa_D1 h]
theorem two_p {n : Nat} (h : n < 100) : clock_two_m (n : Int) = some (D2 n) := by
  unfold clock_two_m strconv_Itoa_m
  rw [show ((100 : Int) + (n : Int)) = ((100 + n : Nat) : Int) by omega, w64n (by omega), asrt_pos (by omega), itoa_100 h, Option.bind_some, asrt_pos (by simp [D2])]
  rfl

/-- The program's text. -/
theorem Show_p {t : Nat} (h : t ≤ 36000000) : clock_Show_m (t : Int) = some (TT t, 0) := by
  have e1 : Int.tdiv (t : Int) 1000 = ((t / 1000 : Nat) : Int) := td t 1000
  have e2 : Int.tdiv (t : Int) 100 = ((t / 100 : Nat) : Int) := td t 100
  have w1 : w64 ((t / 1000 : Nat) : Int) = ((t / 1000 : Nat) : Int) := w64n (by omega)
  have w2 : w64 ((t / 100 : Nat) : Int) = ((t / 100 : Nat) : Int) := w64n (by omega)
  unfold clock_Show_m clock_far_m
  rw [show (decide ((t : Int) < 0)) = false from decide_eq_false (by omega), show (decide ((36000000 : Int) < (t : Int))) = false from decide_eq_false (by omega)]
  simp only [Bool.or_self, Option.bind_some, Bool.false_eq_true, if_false]
  unfold clock_Show_J1 clock_Show_J2 TT
  simp only [e1, e2, w1, w2]
  generalize hs : t / 1000 = s
  have hs2 : s ≤ 36000 := by omega
  have e3 : Int.tdiv (s : Int) 3600 = ((s / 3600 : Nat) : Int) := td s 3600
  have e4 : Int.tdiv (s : Int) 60 = ((s / 60 : Nat) : Int) := td s 60
  have e5 : Int.tmod (s : Int) 60 = ((s % 60 : Nat) : Int) := tm s 60
  have e6 : Int.tmod ((s / 60 : Nat) : Int) 60 = ((s / 60 % 60 : Nat) : Int) := tm (s / 60) 60
  have e7 : Int.tmod ((t / 100 : Nat) : Int) 10 = ((t / 100 % 10 : Nat) : Int) := tm (t / 100) 10
  have w3 : w64 ((s / 3600 : Nat) : Int) = ((s / 3600 : Nat) : Int) := w64n (by omega)
  have w4 : w64 ((s / 60 : Nat) : Int) = ((s / 60 : Nat) : Int) := w64n (by omega)
  simp only [e3, e4, e5, e7, w3, w4, e6]
  have l1 := D1_len (s / 3600)
  have l2 := D1_len (s / 60)
  have l3 := D1_len s
  have l4 := D1_len (t / 100 % 10)
  by_cases q : 3600 ≤ s
  · rw [if_pos (decide_eq_true (by omega)), if_pos q, Itoa_p (by omega), Option.bind_some, two_p (by omega), two_p (by omega)]
    unfold bigN
    rw [asrt_pos (by simp; omega), Option.bind_some, asrt_pos (by simp [D2]; omega), asrt_pos (by simp [D2]; omega), Option.bind_some, asrt_pos (by simp [D2]; omega)]
    simp
  · rw [if_neg (by simp; omega), if_neg q]
    by_cases q2 : 60 ≤ s
    · rw [if_pos (decide_eq_true (by omega)), if_pos q2, Itoa_p (by omega), Option.bind_some, two_p (by omega)]
      unfold bigN
      rw [asrt_pos (by simp; omega), Option.bind_some, asrt_pos (by simp [D2]; omega)]
      simp
    · rw [if_neg (by simp; omega), if_neg q2, Itoa_p (by omega), Option.bind_some, Itoa_p (by omega)]
      unfold bigN
      rw [asrt_pos (by simp; omega), Option.bind_some, asrt_pos (by simp; omega)]
      simp
theorem Show_far {x : Int} (h : x < 0 ∨ 36000000 < x) : clock_Show_m x = some ([], 1) := by
  unfold clock_Show_m clock_far_m
  rw [Option.bind_some, if_pos (by simpa using h)]

set_option maxRecDepth 100000 in
theorem Dec_all : ∀ n < 100, gameroomref_Dec_mF 3 ((n : Nat) : Int) = some (D1 n) := by decide +kernel
theorem Dec_p {n : Nat} (h : n < 100) : gameroomref_Dec_m (n : Int) = some (D1 n) := gameroomref_Dec_m_of 3 _ (Dec_all n h)
theorem twoD_p {n : Nat} (h : n < 100) : gameroomref_twoDigits_m (n : Int) = some (D2 n) := by
  unfold gameroomref_twoDigits_m gameroomref_twoDigits_J1
  rw [Dec_p h]
  by_cases q : n < 10
  · rw [if_pos (decide_eq_true (by omega)), Option.bind_some]
    unfold D1 D2 bigN
    rw [if_pos q, asrt_pos (by simp), show n / 10 = 0 by omega, show n % 10 = n by omega]
    rfl
  · rw [if_neg (by simp; omega), Option.bind_some]
    unfold D1 D2
    rw [if_neg q]

/-- The document's text. -/
theorem Text_p {t : Nat} (h : t ≤ 36000000) : gameroomref_TimeText_m (t : Int) = some (TT t) := by
  have e1 : Int.tdiv (t : Int) 1000 = ((t / 1000 : Nat) : Int) := td t 1000
  have e2 : Int.tdiv (t : Int) 100 = ((t / 100 : Nat) : Int) := td t 100
  have e3 : Int.tdiv (t : Int) 60000 = ((t / 1000 / 60 : Nat) : Int) := by rw [Nat.div_div_eq_div_mul]; exact td t 60000
  have e4 : Int.tdiv (t : Int) 3600000 = ((t / 1000 / 3600 : Nat) : Int) := by rw [Nat.div_div_eq_div_mul]; exact td t 3600000
  have w1 : w64 ((t / 1000 : Nat) : Int) = ((t / 1000 : Nat) : Int) := w64n (by omega)
  have w2 : w64 ((t / 100 : Nat) : Int) = ((t / 100 : Nat) : Int) := w64n (by omega)
  have w3 : w64 ((t / 1000 / 60 : Nat) : Int) = ((t / 1000 / 60 : Nat) : Int) := w64n (by omega)
  have w4 : w64 ((t / 1000 / 3600 : Nat) : Int) = ((t / 1000 / 3600 : Nat) : Int) := w64n (by omega)
  unfold gameroomref_TimeText_m gameroomref_TimeText_J1 gameroomref_TimeText_J2 TT
  simp only [e1, e2, e3, e4, w1, w2, w3, w4]
  generalize hs : t / 1000 = s
  have hs2 : s ≤ 36000 := by omega
  have e5 : Int.tmod (s : Int) 60 = ((s % 60 : Nat) : Int) := tm s 60
  have e6 : Int.tmod ((s / 60 : Nat) : Int) 60 = ((s / 60 % 60 : Nat) : Int) := tm (s / 60) 60
  have e7 : Int.tmod ((t / 100 : Nat) : Int) 10 = ((t / 100 % 10 : Nat) : Int) := tm (t / 100) 10
  simp only [e5, e6, e7]
  have l1 := D1_len (s / 3600)
  have l2 := D1_len (s / 60)
  have l3 := D1_len s
  have l4 := D1_len (t / 100 % 10)
  by_cases q : 3600 ≤ s
  · rw [if_pos (decide_eq_true (by omega)), if_pos q, Dec_p (by omega), Option.bind_some, twoD_p (by omega), twoD_p (by omega)]
    unfold bigN
    rw [asrt_pos (by simp; omega), Option.bind_some, asrt_pos (by simp [D2]; omega), asrt_pos (by simp [D2]; omega), Option.bind_some, asrt_pos (by simp [D2]; omega)]
    simp
  · rw [if_neg (by simp; omega), if_neg q]
    by_cases q2 : 60 ≤ s
    · rw [if_pos (decide_eq_true (by omega)), if_pos q2, show s / 60 % 60 = s / 60 by omega, Dec_p (by omega), Option.bind_some, twoD_p (by omega)]
      unfold bigN
      rw [asrt_pos (by simp; omega), Option.bind_some, asrt_pos (by simp [D2]; omega)]
      simp
    · rw [if_neg (by simp; omega), if_neg q2, show s % 60 = s by omega, Dec_p (by omega), Option.bind_some, Dec_p (by omega)]
      unfold bigN
      rw [asrt_pos (by simp; omega), Option.bind_some, asrt_pos (by simp; omega)]
      simp
end Go.Proofs.YtdbdcbejmbpbmaaDoor
