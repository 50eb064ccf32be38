/-
  Discs on three pegs: what the program and the document count, and single moves.
-/
import Derived.Test.YtbmhcapeikebgaaNHW
import Derived.Test.YtbmhcapeikebgaaHWa
import Derived.Test.YtbmhcapeikebgaaLibT
import Derived.Test.YtbmhcapeikebgaaLibK
namespace Go.Proofs.Ytbmhcapeikebgaa
open Go Go.GL Go.HW

abbrev st (s : List Int) : Nat → Int := fun i => geti s (i : Int)
def okD (s : List Int) : Prop := s.length ≤ 40 ∧ ∀ x ∈ s, pg x
theorem okD.at_ {s : List Int} (h : okD s) {i : Nat} (hi : i < s.length) : pg (st s i) := h.2 _ (List.mem_of_getElem? (get_geti hi))
theorem okD.v {s : List Int} (h : okD s) : V s.length (st s) := fun _ hi => h.at_ hi

def badD (x : Int) : Bool := decide (x < 0) || decide (2 < x)
def discE (s : List Int) : Int := if 40 < s.length then 2 else if s.any badD = true then 3 else 0
theorem discE_ok {s : List Int} : discE s = 0 ↔ okD s := by
  unfold discE okD
  by_cases h : 40 < s.length
  · rw [if_pos h]; omega
  · rw [if_neg h]
    cases h2 : s.any badD with
    | true =>
      rw [if_pos rfl]
      obtain ⟨x, hx, hb⟩ := List.any_eq_true.1 h2
      unfold badD at hb
      simp at hb
      constructor
      · intro z; omega
      · intro z; have := z.2 x hx; unfold pg at this; omega
    | false =>
      rw [if_neg (by decide)]
      refine ⟨fun _ => ⟨by omega, fun x hx => ?_⟩, fun _ => rfl⟩
      have := List.any_eq_false.1 h2 x hx
      unfold badD at this
      simp at this
      unfold pg
      omega

theorem check_p {s : List Int} (hl : s.length ≤ 17592186043904) : hanoi_check_m s = some (discE s) := by
  unfold hanoi_check_m discE
  by_cases h : 40 < s.length
  · rw [if_pos (decide_eq_true (by omega)), if_pos h]
  · rw [if_neg (by simp; omega), if_neg h]
    unfold slices_ContainsFunc_m slices_IndexFunc_m
    have key := search_loop (step := slices_IndexFunc_L1 s) (l := s) badD (fun i => Fl.ret (i : Int)) (Fl.go ()) (by
      intro i x hx hp
      have hb := idx_bd hx
      simp only [slices_IndexFunc_L1, slices_IndexFunc_J2, hanoi_off_m]
      rw [if_pos (decide_eq_true hb.2), asrt_pos hb, geti_some hx, Option.bind_some, if_pos (show (decide (x < 0) || decide (2 < x)) = true from hp)]) (by
      intro i x hx hp
      have hb := idx_bd hx
      simp only [slices_IndexFunc_L1, slices_IndexFunc_J2, slices_IndexFunc_J3, hanoi_off_m]
      rw [if_pos (decide_eq_true hb.2), asrt_pos hb, geti_some hx, Option.bind_some, if_neg (by rw [show (decide (x < 0) || decide (2 < x)) = false from hp]; decide), w64_of (by omega)]) (by
      simp only [slices_IndexFunc_L1]
      rw [if_neg (by simp)])
    rw [key, Option.bind_some]
    cases hf : s.findIdx? badD with
    | none =>
      have : s.any badD = false := by
        rw [List.any_eq_false]
        intro x hx; rw [List.findIdx?_eq_none_iff.1 hf x hx]; decide
      rw [this]; rfl
    | some i =>
      have : s.any badD = true := by
        obtain ⟨hi, hp, _⟩ := List.findIdx?_eq_some_iff_getElem.1 hf
        rw [List.any_eq_true]
        exact ⟨s[i], List.getElem_mem hi, hp⟩
      rw [this]
      show ((some (decide ((0 : Int) ≤ (i : Int)))).bind _) = _
      rw [decide_eq_true (show (0 : Int) ≤ (i : Int) by omega)]; rfl

theorem discsMay_p {s : List Int} (hl : s.length ≤ 17592186043904) : gameroomref_DiscsMay_m s = some (discE s) := by
  unfold gameroomref_DiscsMay_m discE
  by_cases h : 40 < s.length
  · rw [if_pos (decide_eq_true (by omega)), if_pos h]
  · rw [if_neg (by simp; omega), if_neg h]
    unfold gameroomref_DiscsMay_J1
    have wi : ∀ x : Int, gameroomref_within_m x 0 2 = some (!badD x) := fun x => by
      unfold gameroomref_within_m badD
      congr 1
      rw [Bool.eq_iff_iff]
      simp
    have key := search_loop (step := gameroomref_DiscsMay_L1 s) (l := s) badD (fun i => Fl.ret (3 : Int)) (Fl.go ()) (by
      intro i x hx hp
      have hb := idx_bd hx
      simp only [gameroomref_DiscsMay_L1, gameroomref_DiscsMay_J3]
      rw [if_pos (decide_eq_true hb.2), asrt_pos hb, geti_some hx, wi, Option.bind_some, hp]; rfl) (by
      intro i x hx hp
      have hb := idx_bd hx
      simp only [gameroomref_DiscsMay_L1, gameroomref_DiscsMay_J3, gameroomref_DiscsMay_J4]
      rw [if_pos (decide_eq_true hb.2), asrt_pos hb, geti_some hx, wi, Option.bind_some, hp, w64_of (by omega)]; rfl) (by
      simp only [gameroomref_DiscsMay_L1]
      rw [if_neg (by simp)])
    rw [key, Option.bind_some]
    cases hf : s.findIdx? badD with
    | none =>
      have : s.any badD = false := by
        rw [List.any_eq_false]
        intro x hx; rw [List.findIdx?_eq_none_iff.1 hf x hx]; decide
      rw [this]; rfl
    | some i =>
      have : s.any badD = true := by
        obtain ⟨hi, hp, _⟩ := List.findIdx?_eq_some_iff_getElem.1 hf
        rw [List.any_eq_true]
        exact ⟨s[i], List.getElem_mem hi, hp⟩
      rw [this]; rfl

theorem pow40 {n : Nat} (h : n ≤ 40) : 2 ^ n ≤ 1099511627776 := Nat.le_trans (Nat.pow_le_pow_right (by omega) h) (by decide)

theorem pg_bd {x : Int} (h : pg x) : 0 ≤ x ∧ x ≤ 2 := by unfold pg at h; omega

theorem gather_p {l : List Int} {p : Int} (h : okD l) (hp : pg p) : hanoi_gather_m l p = some (G (st l) l.length p : Int) := by
  unfold hanoi_gather_m
  have tot := G_le (σ := st l) l.length p
  have b40 := pow40 h.1
  have key := count_loop (step := hanoi_gather_L1 l) (fun (s : Int × Nat) (k : Nat) => (s.1, ((s.2 : Nat) : Int), (l.length : Int) - 1 - k)) (fun k s => pg s.1 ∧ s.2 + G (st l) (l.length - k) s.1 = G (st l) l.length p) (fun x => x = (G (st l) l.length p : Int)) l.length (p, 0) ⟨hp, by simp⟩ (by
    rintro k ⟨peg, acc⟩ hk ⟨i1, i2⟩
    dsimp only at i1 i2
    left
    obtain ⟨m, hm⟩ : ∃ m, l.length - k = m + 1 := ⟨l.length - k - 1, by omega⟩
    have hidx : (l.length : Int) - 1 - (k : Int) = (m : Int) := by omega
    have hml : m < l.length := by omega
    dsimp only
    rw [hidx]
    have e1 : hanoi_gather_L1 l (peg, ((acc : Nat) : Int), (m : Int)) = hanoi_gather_J2 l peg acc m := by
      simp only [hanoi_gather_L1]
      rw [if_pos (decide_eq_true (by omega))]
    have h40 := h.1
    rw [e1]
    unfold hanoi_gather_J2 hanoi_gather_J3
    rw [hm] at i2
    have hG : G (st l) (m + 1) peg = (if st l m = peg then G (st l) m peg else G (st l) m (3 - st l m - peg) + 2 ^ m) := rfl
    rw [hG] at i2
    have hpm := h.at_ hml
    have hb1 := pg_bd hpm
    have hb2 := pg_bd i1
    have hnext : (l.length : Int) - 1 - ((k + 1 : Nat) : Int) = (m : Int) - 1 := by omega
    rw [asrt_pos (by omega), hnext, w64_of (x := (m : Int) - 1) (by omega)]
    have hkm : l.length - (k + 1) = m := by omega
    by_cases z : st l m = peg
    · rw [if_pos z] at i2
      rw [if_neg (by rw [show geti l (m : Int) = peg from z]; simp)]
      exact ⟨(peg, acc), rfl, i1, by rw [hkm]; exact i2⟩
    · rw [if_neg z] at i2
      have hpw := pow40 (n := m) (by have := h.1; omega)
      obtain ⟨P, hP⟩ : ∃ P, P = 2 ^ m := ⟨_, rfl⟩
      rw [← hP] at hpw i2
      rw [if_pos (by rw [bne_iff_ne]; exact z), asrt_pos (by omega), asrt_pos (by omega), shl1 m (by have := h.1; omega), ← hP, w64_of (x := 3 - geti l (m : Int)) (by show _ ≤ 3 - st l m ∧ 3 - st l m ≤ _; omega), w64_of (x := 3 - geti l (m : Int) - peg) (by show _ ≤ 3 - st l m - peg ∧ 3 - st l m - peg ≤ _; omega), w64_of (by omega)]
      refine ⟨(3 - st l m - peg, acc + P), ?_, (pg_third hpm i1 z).1, by rw [hkm]; dsimp only; omega⟩
      dsimp only
      rw [Int.natCast_add]) (by
    rintro ⟨peg, acc⟩ ⟨i1, i2⟩
    rw [Nat.sub_self] at i2
    refine ⟨(acc : Int), ?_, ?_⟩
    · dsimp only
      show (if _ then _ else _) = _
      rw [if_neg (by simp; omega)]
    · rw [← i2]; simp [G])
  obtain ⟨x, hx, rfl⟩ := key
  have hx' : loop (hanoi_gather_L1 l) (p, 0, w64 ((l.length : Int) - 1)) = some (G (st l) l.length p : Int) := by
    rw [← hx, w64_of (by have := h.1; omega)]
    simp
  rw [hx']; rfl

theorem okD.take {s : List Int} (h : okD s) (k : Nat) : okD (s.take k) := ⟨by rw [List.length_take]; have := h.1; omega, fun x hx => h.2 x (List.mem_of_mem_take hx)⟩

theorem gatherCut_p {s : List Int} {p : Int} {k : Nat} (h : okD s) (hk : k ≤ s.length) (hp : pg p) : hanoi_gather_m (cut s 0 (k : Int)) p = some (G (st s) k p : Int) := by
  have e : cut s 0 (k : Int) = s.take k := by unfold cut; simp
  have hl : (s.take k).length = k := by rw [List.length_take]; omega
  rw [e, gather_p (h.take k) hp, hl]
  congr 2
  refine G_congr k p (fun i hi => ?_)
  show geti (s.take k) (i : Int) = geti s (i : Int)
  rw [geti_nat, geti_nat, List.getD_eq_getElem?_getD, List.getD_eq_getElem?_getD, List.getElem?_take, if_pos hi]

theorem discsTo_F {s : List Int} (h : okD s) : ∀ (N n : Nat) (p : Int), n < N → n ≤ s.length → pg p → gameroomref_discsTo_mF N s n p = some (G (st s) n p : Int)
  | 0, _, _, h, _, _ => by omega
  | N + 1, n, p, hN, hn, hp => by
    show gameroomref_discsTo_B (gameroomref_discsTo_mF N) s n p = _
    unfold gameroomref_discsTo_B
    cases n with
    | zero => rw [if_pos (by decide)]; rfl
    | succ n =>
      have hpn := h.at_ (i := n) (by omega)
      have hb1 := pg_bd hpn
      have hb2 := pg_bd hp
      have e1 : w64 (((n + 1 : Nat) : Int) - 1) = (n : Int) := by have := h.1; rw [w64_of (by omega)]; omega
      have hG : G (st s) (n + 1) p = (if st s n = p then G (st s) n p else G (st s) n (3 - st s n - p) + 2 ^ n) := rfl
      rw [if_neg (by rw [beq_iff_eq]; omega)]
      unfold gameroomref_discsTo_J1
      rw [e1, asrt_pos (by omega)]
      by_cases z : st s n = p
      · rw [if_pos (by rw [beq_iff_eq]; exact z), discsTo_F h N n p (by omega) (by omega) hp, hG, if_pos z]; rfl
      · rw [if_neg (by rw [beq_iff_eq]; exact z)]
        unfold gameroomref_discsTo_J2
        have hpw := pow40 (n := n) (by have := h.1; omega)
        have tot := G_le (σ := st s) n (3 - st s n - p)
        rw [e1, asrt_pos (by omega), w64_of (x := 3 - geti s (n : Int)) (by show _ ≤ 3 - st s n ∧ 3 - st s n ≤ _; omega), w64_of (x := 3 - geti s (n : Int) - p) (by show _ ≤ 3 - st s n - p ∧ 3 - st s n - p ≤ _; omega),
          discsTo_F h N n (3 - st s n - p) (by omega) (by omega) (pg_third hpn hp z).1, Option.bind_some, asrt_pos (by omega), shl1 n (by have := h.1; omega), w64_of (by omega), hG, if_neg z, Int.natCast_add]
theorem discsTo_p {s : List Int} (h : okD s) {n : Nat} {p : Int} (hn : n ≤ s.length) (hp : pg p) : gameroomref_discsTo_m s n p = some (G (st s) n p : Int) :=
  gameroomref_discsTo_m_of (n + 1) _ _ _ (discsTo_F h (n + 1) n p (by omega) hn hp)

theorem minI_mn2 (a b : Nat) : minI (a : Int) (b : Int) = (mn2 a b : Int) := by
  unfold minI mn2
  by_cases h : b < a
  · rw [if_pos h, if_pos (by omega)]
  · rw [if_neg h, if_neg (by omega)]

section
variable {s t : List Int} (hs : okD s) (ht : okD t) (hl : s.length = t.length)
include hs ht hl

theorem between_p : gameroomref_DiscsBetween_m s t = some (D (st s) (st t) s.length : Int) := by
  unfold gameroomref_DiscsBetween_m
  have hs1 := hs.1
  have key := count_loop (step := gameroomref_DiscsBetween_L1 s t) (fun (_ : Unit) (k : Nat) => ((s.length - k : Nat) : Int)) (fun k _ => D (st s) (st t) (s.length - k) = D (st s) (st t) s.length)
    (fun x => ∃ m : Nat, x = (m : Int) ∧ m ≤ s.length ∧ D (st s) (st t) m = D (st s) (st t) s.length ∧ (m = 0 ∨ st s (m - 1) ≠ st t (m - 1))) s.length () rfl (by
    rintro k - hk hI
    obtain ⟨m, hm⟩ : ∃ m, s.length - k = m + 1 := ⟨s.length - k - 1, by omega⟩
    rw [hm] at hI ⊢
    have e1 : w64 (((m + 1 : Nat) : Int) - 1) = (m : Int) := by rw [w64_of (by omega)]; omega
    simp only [gameroomref_DiscsBetween_L1, gameroomref_DiscsBetween_J2]
    rw [e1, asrt_pos (by intro _; omega), asrt_pos (by intro _; omega)]
    by_cases z : st s m = st t m
    · left
      refine ⟨(), by rw [if_pos (by simp only [Bool.and_eq_true, decide_eq_true_eq, beq_iff_eq]; exact ⟨by omega, z⟩)]; congr 2; omega, ?_⟩
      rw [show s.length - (k + 1) = m by omega, ← hI]
      show _ = (if st s m = st t m then _ else _)
      rw [if_pos z]
    · right
      exact ⟨_, by rw [if_neg (by simp only [Bool.and_eq_true, decide_eq_true_eq, beq_iff_eq]; exact fun y => z y.2)], m + 1, rfl, by omega, hI, Or.inr z⟩) (by
    rintro - hI
    rw [Nat.sub_self] at hI ⊢
    refine ⟨_, ?_, 0, rfl, by omega, hI, Or.inl rfl⟩
    simp only [gameroomref_DiscsBetween_L1]
    rw [asrt_pos (by intro z; simp at z), asrt_pos (by intro z; simp at z), if_neg (by simp)])
  obtain ⟨x, hx, m, rfl, hm, hD, hc⟩ := key
  have hx' : loop (gameroomref_DiscsBetween_L1 s t) (s.length : Int) = some (m : Int) := hx
  rw [hx', Option.bind_some]
  simp only [gameroomref_DiscsBetween_K1]
  unfold gameroomref_DiscsBetween_J1
  cases m with
  | zero => rw [if_pos (by decide), ← hD]; rfl
  | succ m =>
    have z : st s m ≠ st t m := by
      rcases hc with h | h
      · omega
      · exact h
    have a := hs.at_ (i := m) (by omega)
    have b := ht.at_ (i := m) (by omega)
    have ba := pg_bd a
    have bb := pg_bd b
    have t3 := pg_third a b z
    have e1 : w64 (((m + 1 : Nat) : Int) - 1) = (m : Int) := by rw [w64_of (by omega)]; omega
    have e2 : w64 (w64 (3 - geti s (m : Int)) - geti t (m : Int)) = 3 - st s m - st t m := by
      show w64 (w64 (3 - st s m) - st t m) = _
      rw [w64_of (x := 3 - st s m) (by omega), w64_of (by omega)]
    rw [if_neg (by rw [beq_iff_eq]; omega)]
    unfold gameroomref_DiscsBetween_J3 gameroomref_DiscsBetween_J4
    have hpw := pow40 (n := m) (by omega)
    obtain ⟨P, hP⟩ : ∃ P, P = 2 ^ m := ⟨_, rfl⟩
    have g1 := G_le (σ := st s) m (3 - st s m - st t m)
    have g2 := G_le (σ := st t) m (3 - st s m - st t m)
    have g3 := G_le (σ := st s) m (st t m)
    have g4 := G_le (σ := st t) m (st s m)
    rw [← hP] at hpw g1 g2 g3 g4
    rw [e1, asrt_pos (by omega), asrt_pos (by omega), e2, discsTo_p hs (by omega) t3.1, Option.bind_some, discsTo_p ht (by omega) t3.1, Option.bind_some, discsTo_p hs (by omega) b, Option.bind_some, asrt_pos (by omega), discsTo_p ht (by omega) a, Option.bind_some, shl1 m (by omega), ← hP]
    rw [w64_of (x := (G (st s) m (3 - st s m - st t m) : Int) + 1) (by omega), w64_of (x := (G (st s) m (3 - st s m - st t m) : Int) + 1 + (G (st t) m (3 - st s m - st t m) : Int)) (by omega),
      w64_of (x := (G (st s) m (st t m) : Int) + (P : Int)) (by omega), w64_of (x := (G (st s) m (st t m) : Int) + (P : Int) + 1) (by omega), w64_of (x := (G (st s) m (st t m) : Int) + (P : Int) + 1 + (G (st t) m (st s m) : Int)) (by omega), ← hD]
    have hd : D (st s) (st t) (m + 1) = mn2 (G (st s) m (3 - st s m - st t m) + 1 + G (st t) m (3 - st s m - st t m)) (G (st s) m (st t m) + P + 1 + G (st t) m (st s m)) := by
      show (if st s m = st t m then _ else _) = _
      rw [if_neg z, hP]
    rw [hd]
    unfold mn2
    by_cases q : G (st s) m (st t m) + P + 1 + G (st t) m (st s m) < G (st s) m (3 - st s m - st t m) + 1 + G (st t) m (3 - st s m - st t m)
    · rw [if_pos (decide_eq_true (by omega)), if_pos q]
      congr 1
    · rw [if_neg (by simp; omega), if_neg q]
      congr 1

theorem farJ4_p : hanoi_Far_J4 s t = some ((D (st s) (st t) s.length : Int), 0) := by
  unfold hanoi_Far_J4
  have hs1 := hs.1
  have key := count_loop (step := hanoi_Far_L2 s t) (fun (_ : Unit) (k : Nat) => (s.length : Int) - 1 - k) (fun k _ => D (st s) (st t) (s.length - k) = D (st s) (st t) s.length)
    (fun x => ∃ m : Nat, x = (m : Int) - 1 ∧ m ≤ s.length ∧ D (st s) (st t) m = D (st s) (st t) s.length ∧ (m = 0 ∨ st s (m - 1) ≠ st t (m - 1))) s.length () rfl (by
    rintro k - hk hI
    obtain ⟨m, hm⟩ : ∃ m, s.length - k = m + 1 := ⟨s.length - k - 1, by omega⟩
    rw [hm] at hI
    have e1 : (s.length : Int) - 1 - (k : Int) = (m : Int) := by omega
    rw [e1]
    simp only [hanoi_Far_L2, hanoi_Far_J6]
    rw [asrt_pos (by intro _; omega), asrt_pos (by intro _; omega)]
    by_cases z : st s m = st t m
    · left
      refine ⟨(), by rw [if_pos (by simp only [Bool.and_eq_true, decide_eq_true_eq, beq_iff_eq]; exact ⟨by omega, z⟩), w64_of (by omega)]; congr 2; omega, ?_⟩
      rw [show s.length - (k + 1) = m by omega, ← hI]
      show _ = (if st s m = st t m then _ else _)
      rw [if_pos z]
    · right
      exact ⟨_, by rw [if_neg (by simp only [Bool.and_eq_true, decide_eq_true_eq, beq_iff_eq]; exact fun y => z y.2)], m + 1, by omega, by omega, hI, Or.inr z⟩) (by
    rintro - hI
    rw [Nat.sub_self] at hI
    refine ⟨_, ?_, 0, rfl, by omega, hI, Or.inl rfl⟩
    simp only [hanoi_Far_L2]
    rw [asrt_pos (by intro z; simp at z; omega), asrt_pos (by intro z; simp at z; omega), if_neg (by simp; omega)]
    congr 2
    omega)
  obtain ⟨x, hx, m, rfl, hm, hD, hc⟩ := key
  have hx' : loop (hanoi_Far_L2 s t) (w64 ((s.length : Int) - 1)) = some ((m : Int) - 1) := by
    rw [← hx, w64_of (by omega)]; simp
  rw [hx', Option.bind_some]
  simp only [hanoi_Far_K2]
  unfold hanoi_Far_J5
  cases m with
  | zero => rw [if_pos (by decide), ← hD]; rfl
  | succ m =>
    have z : st s m ≠ st t m := by
      rcases hc with h | h
      · omega
      · exact h
    have a := hs.at_ (i := m) (by omega)
    have b := ht.at_ (i := m) (by omega)
    have ba := pg_bd a
    have bb := pg_bd b
    have t3 := pg_third a b z
    have e1 : ((m + 1 : Nat) : Int) - 1 = (m : Int) := by omega
    have e2 : w64 (w64 (3 - geti s (m : Int)) - geti t (m : Int)) = 3 - st s m - st t m := by
      show w64 (w64 (3 - st s m) - st t m) = _
      rw [w64_of (x := 3 - st s m) (by omega), w64_of (by omega)]
    rw [e1, if_neg (by simp)]
    unfold hanoi_Far_J7
    have hpw := pow40 (n := m) (by omega)
    obtain ⟨P, hP⟩ : ∃ P, P = 2 ^ m := ⟨_, rfl⟩
    have g1 := G_le (σ := st s) m (3 - st s m - st t m)
    have g2 := G_le (σ := st t) m (3 - st s m - st t m)
    have g3 := G_le (σ := st s) m (st t m)
    have g4 := G_le (σ := st t) m (st s m)
    rw [← hP] at hpw g1 g2 g3 g4
    rw [asrt_pos (by omega), asrt_pos (by omega), asrt_pos (by omega), asrt_pos (by omega), e2, gatherCut_p hs (by omega) t3.1, Option.bind_some, gatherCut_p ht (by omega) t3.1, Option.bind_some, asrt_pos (by omega), gatherCut_p hs (by omega) b, Option.bind_some, asrt_pos (by omega), asrt_pos (by omega), gatherCut_p ht (by omega) a, Option.bind_some, shl1 m (by omega), ← hP]
    have q1 : w64 (w64 ((G (st s) m (3 - st s m - st t m) : Int) + 1) + (G (st t) m (3 - st s m - st t m) : Int)) = ((G (st s) m (3 - st s m - st t m) + 1 + G (st t) m (3 - st s m - st t m) : Nat) : Int) := by
      rw [w64_of (x := (G (st s) m (3 - st s m - st t m) : Int) + 1) (by omega), w64_of (by omega)]; omega
    have q2 : w64 (w64 (w64 (w64 (w64 ((G (st s) m (st t m) : Int) + 1) + (P : Int)) - 1) + 1) + (G (st t) m (st s m) : Int)) = ((G (st s) m (st t m) + P + 1 + G (st t) m (st s m) : Nat) : Int) := by
      rw [w64_of (x := (G (st s) m (st t m) : Int) + 1) (by omega), w64_of (x := (G (st s) m (st t m) : Int) + 1 + (P : Int)) (by omega), w64_of (x := (G (st s) m (st t m) : Int) + 1 + (P : Int) - 1) (by omega), w64_of (x := (G (st s) m (st t m) : Int) + 1 + (P : Int) - 1 + 1) (by omega), w64_of (by omega)]; omega
    have hd : D (st s) (st t) (m + 1) = mn2 (G (st s) m (3 - st s m - st t m) + 1 + G (st t) m (3 - st s m - st t m)) (G (st s) m (st t m) + P + 1 + G (st t) m (st s m)) := by
      show (if st s m = st t m then _ else _) = _
      rw [if_neg z, hP]
    rw [q1, q2, minI_mn2, ← hD, hd]
end

theorem Far_p {s t : List Int} (hs : s.length ≤ 17592186043904) (ht : t.length ≤ 17592186043904) : hanoi_Far_m s t = some (if discE s ≠ 0 then (0, discE s) else if discE t ≠ 0 then (0, discE t) else if s.length ≠ t.length then (0, 11) else ((D (st s) (st t) s.length : Int), 0)) := by
  unfold hanoi_Far_m
  have g0 : geti2 ([s, t] : List (List Int)) 0 = s := rfl
  have g1 : geti2 ([s, t] : List (List Int)) 1 = t := rfl
  have e0 : hanoi_Far_L1 s t 0 = (if discE s ≠ 0 then some (.done (.ret (0, discE s))) else some (.next 1)) := by
    simp only [hanoi_Far_L1, hanoi_Far_J2, hanoi_Far_J3]
    rw [if_pos (by decide), asrt_pos (by decide), g0, check_p hs, Option.bind_some]
    by_cases z : discE s ≠ 0
    · rw [if_pos (by rw [bne_iff_ne]; exact z), if_pos z]
    · rw [if_neg (by rw [bne_iff_ne]; exact z), if_neg z]; rfl
  have e1 : hanoi_Far_L1 s t 1 = (if discE t ≠ 0 then some (.done (.ret (0, discE t))) else some (.next 2)) := by
    simp only [hanoi_Far_L1, hanoi_Far_J2, hanoi_Far_J3]
    rw [if_pos (by decide), asrt_pos (by decide), g1, check_p ht, Option.bind_some]
    by_cases z : discE t ≠ 0
    · rw [if_pos (by rw [bne_iff_ne]; exact z), if_pos z]
    · rw [if_neg (by rw [bne_iff_ne]; exact z), if_neg z]; rfl
  have e2 : hanoi_Far_L1 s t 2 = some (.done (.go ())) := by
    simp only [hanoi_Far_L1]
    rw [if_neg (by decide)]
  by_cases zs : discE s ≠ 0
  · rw [if_pos zs] at e0
    rw [if_pos zs, loop_done e0]; rfl
  · rw [if_neg zs] at e0
    rw [if_neg zs]
    by_cases zt : discE t ≠ 0
    · rw [if_pos zt] at e1
      rw [if_pos zt, loop_next' e0 (loop_done e1)]; rfl
    · rw [if_neg zt] at e1
      rw [if_neg zt, loop_next' e0 (loop_next' e1 (loop_done e2)), Option.bind_some]
      simp only [hanoi_Far_K1]
      unfold hanoi_Far_J1
      by_cases zl : s.length ≠ t.length
      · rw [if_pos zl, if_pos (by rw [bne_iff_ne]; omega)]
      · rw [if_neg zl, if_neg (by rw [bne_iff_ne]; omega)]
        exact farJ4_p (discE_ok.1 (Decidable.not_not.1 zs)) (discE_ok.1 (Decidable.not_not.1 zt)) (Decidable.not_not.1 zl)

/-! ### single moves -/
def mvOf (s : List Int) (a b : Int) : List Int × Int :=
  match s.findIdx? (fun x => x == a) with
  | none => ([], 10)
  | some d => if (s.take d).any (fun x => x == b) = true then ([], 8) else (s.set d b, 0)

theorem DiscMove_same {s : List Int} {a : Int} (ha : pg a) : gameroomref_DiscMove_m s a a 0 = some ([], 5) := by
  have hb := pg_bd ha
  unfold gameroomref_DiscMove_m gameroomref_within_m
  rw [Option.bind_some, decide_eq_true hb.1, decide_eq_true hb.2, if_pos (by decide), Option.bind_some, if_pos (by simp)]

theorem DiscMove_p {s : List Int} {a b : Int} (hl : s.length ≤ 40) (ha : pg a) (hb : pg b) (hne : a ≠ b) : gameroomref_DiscMove_m s a b 0 = some (mvOf s a b) := by
  have b1 := pg_bd ha
  have b2 := pg_bd hb
  unfold gameroomref_DiscMove_m gameroomref_within_m mvOf
  rw [Option.bind_some, decide_eq_true b1.1, decide_eq_true b1.2, if_pos (by decide), decide_eq_true b2.1, decide_eq_true b2.2, Option.bind_some, if_neg (by simp; exact hne)]
  unfold gameroomref_DiscMove_J1
  have key := search_loop (step := gameroomref_DiscMove_L1 s a) (l := s) (fun x => x == a) (fun i => (i : Int)) (-1) (by
    intro i x hx hp
    have hb := idx_bd hx
    simp only [gameroomref_DiscMove_L1, gameroomref_DiscMove_J3]
    rw [if_pos (decide_eq_true hb.2), asrt_pos hb, geti_some hx, if_pos hp]) (by
    intro i x hx hp
    have hb := idx_bd hx
    simp only [gameroomref_DiscMove_L1, gameroomref_DiscMove_J3, gameroomref_DiscMove_J4]
    rw [if_pos (decide_eq_true hb.2), asrt_pos hb, geti_some hx, if_neg (by rw [hp]; decide), w64_of (by omega)]) (by
    simp only [gameroomref_DiscMove_L1]
    rw [if_neg (by simp)])
  rw [key, Option.bind_some]
  cases hf : s.findIdx? (fun x => x == a) with
  | none => rfl
  | some d =>
    obtain ⟨hd, _, _⟩ := List.findIdx?_eq_some_iff_getElem.1 hf
    simp only [gameroomref_DiscMove_K1]
    unfold gameroomref_DiscMove_J2
    rw [if_neg (by simp)]
    unfold gameroomref_DiscMove_J5
    have hdl : (s.take d).length = d := by rw [List.length_take]; omega
    have k2 := search_loop (step := gameroomref_DiscMove_L2 s b (d : Int)) (l := s.take d) (fun x => x == b) (fun i => Fl.ret (([] : List Int), (8 : Int))) (Fl.go ()) (by
      intro i x hx hp
      have hi := (List.getElem?_eq_some_iff.1 hx).1
      rw [List.getElem?_take, if_pos (by omega)] at hx
      simp only [gameroomref_DiscMove_L2, gameroomref_DiscMove_J7]
      rw [if_pos (decide_eq_true (by omega)), asrt_pos (idx_bd hx), geti_some hx, if_pos hp]) (by
      intro i x hx hp
      have hi := (List.getElem?_eq_some_iff.1 hx).1
      rw [List.getElem?_take, if_pos (by omega)] at hx
      have hb := idx_bd hx
      simp only [gameroomref_DiscMove_L2, gameroomref_DiscMove_J7, gameroomref_DiscMove_J8]
      rw [if_pos (decide_eq_true (by omega)), asrt_pos hb, geti_some hx, if_neg (by rw [hp]; decide), w64_of (by omega)]) (by
      simp only [gameroomref_DiscMove_L2]
      rw [hdl, if_neg (by simp)])
    rw [k2, Option.bind_some]
    cases hf2 : (s.take d).findIdx? (fun x => x == b) with
    | none =>
      have : (s.take d).any (fun x => x == b) = false := by
        rw [List.any_eq_false]
        intro x hx; rw [List.findIdx?_eq_none_iff.1 hf2 x hx]; decide
      rw [this, if_neg (by decide)]
      simp only [gameroomref_DiscMove_K2]
      unfold gameroomref_DiscMove_J6 gameroomref_Ints_m
      rw [asrt_pos (by unfold bigN; omega), List.nil_append, Option.bind_some, asrt_pos (by omega), Int.toNat_natCast]
    | some i =>
      have : (s.take d).any (fun x => x == b) = true := by
        obtain ⟨hi, hp, _⟩ := List.findIdx?_eq_some_iff_getElem.1 hf2
        rw [List.any_eq_true]
        exact ⟨(s.take d)[i], List.getElem_mem hi, hp⟩
      rw [this, if_pos rfl]
      rfl

theorem mvOf_E {s y : List Int} {a b : Int} (hs : okD s) (ha : pg a) (hb : pg b) (hne : a ≠ b) (h : mvOf s a b = (y, 0)) : y.length = s.length ∧ okD y ∧ E s.length (st s) (st y) := by
  unfold mvOf at h
  cases hf : s.findIdx? (fun x => x == a) with
  | none => rw [hf] at h; simp at h
  | some d =>
    rw [hf] at h
    dsimp only at h
    obtain ⟨hd, hda, hlt⟩ := List.findIdx?_eq_some_iff_getElem.1 hf
    cases hq : (s.take d).any (fun x => x == b) with
    | true => rw [hq, if_pos rfl] at h; simp at h
    | false =>
      rw [hq, if_neg (by decide)] at h
      have hy : s.set d b = y := congrArg Prod.fst h
      subst hy
      have ed : st s d = a := by
        have := get_geti hd
        rw [List.getElem?_eq_getElem hd] at this
        have e := Option.some.inj this
        rw [beq_iff_eq] at hda
        exact e.symm.trans hda
      have hset : ∀ i, st (s.set d b) i = if i = d then b else st s i := fun i => by
        show geti (s.set d b) (i : Int) = _
        rw [geti_set' (by omega) hd]
        by_cases e : i = d
        · rw [if_pos e, if_pos (by omega)]
        · rw [if_neg e, if_neg (by omega)]
      have hthird : ∀ i, i < d → st s i = 3 - a - b := fun i hi => by
        have hil : i < s.length := by omega
        have hp := hs.at_ hil
        have n1 : st s i ≠ a := by
          have := hlt i hi
          have e := get_geti hil
          rw [List.getElem?_eq_getElem hil] at e
          have e := Option.some.inj e
          intro z
          apply this
          rw [beq_iff_eq]
          exact e.trans z
        have n2 : st s i ≠ b := by
          have hm : st s i ∈ s.take d := List.mem_iff_getElem?.2 ⟨i, by rw [List.getElem?_take, if_pos hi, get_geti hil]⟩
          have := List.any_eq_false.1 hq _ hm
          simpa using this
        unfold pg at hp ha hb
        omega
      refine ⟨List.length_set, ⟨by rw [List.length_set]; exact hs.1, fun x hx => ?_⟩, d, hd, ?_, fun i hi => ?_, fun i hi _ => ?_⟩
      · rcases List.mem_or_eq_of_mem_set hx with q | q
        · exact hs.2 x q
        · rw [q]; exact hb
      · rw [hset, if_pos rfl, ed]; exact hne
      · rw [hset d, if_pos rfl, ed, hset i, if_neg (by omega)]
        exact ⟨hthird i hi, rfl⟩
      · rw [hset, if_neg (by omega)]

theorem E_mvOf {s y : List Int} (hs : okD s) (hy : okD y) (hl : y.length = s.length) (h : E s.length (st s) (st y)) : ∃ a b, pg a ∧ pg b ∧ a ≠ b ∧ mvOf s a b = (y, 0) := by
  obtain ⟨d, hd, hne, h1, h2⟩ := h
  have ga := hs.at_ hd
  have gb := hy.at_ (i := d) (by omega)
  refine ⟨st s d, st y d, ga, gb, hne, ?_⟩
  have t3 := pg_third ga gb hne
  have hf : s.findIdx? (fun x => x == st s d) = some d := by
    rw [List.findIdx?_eq_some_iff_getElem]
    have get : ∀ i (hi : i < s.length), s[i] = st s i := fun i hi => by
      have := get_geti hi
      rw [List.getElem?_eq_getElem hi] at this
      exact Option.some.inj this
    refine ⟨hd, by rw [beq_iff_eq]; exact get d hd, fun j hj => ?_⟩
    rw [beq_iff_eq, get j (by omega), (h1 j hj).1]
    exact t3.2.1
  unfold mvOf
  rw [hf]
  dsimp only
  have ha : (s.take d).any (fun x => x == st y d) = false := by
    rw [List.any_eq_false]
    intro x hx
    obtain ⟨i, hi⟩ := List.mem_iff_getElem?.1 hx
    rw [List.getElem?_take] at hi
    split at hi
    · rename_i q
      rw [get_geti (by omega)] at hi
      have e : st s i = x := Option.some.inj hi
      rw [beq_iff_eq, ← e, (h1 i q).1]
      exact t3.2.2
    · cases hi
  rw [ha, if_neg (by decide)]
  congr 1
  refine ext_geti (by rw [List.length_set, hl]) (fun i hi => ?_)
  rw [List.length_set] at hi
  rw [geti_set' (by omega) hd]
  by_cases e : i = d
  · subst e; rw [if_pos rfl]
  · rw [if_neg (by omega)]
    by_cases q : i < d
    · exact (h1 i q).2.symm
    · exact (h2 i (by omega) hi).symm
end Go.Proofs.Ytbmhcapeikebgaa
