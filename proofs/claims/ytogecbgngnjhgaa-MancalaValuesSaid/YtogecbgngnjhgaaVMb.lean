/-
  Mancala: boards seen from the mover; sowing, as the program and as the document do it.
-/
import Derived.Test.YtogecbgngnjhgaaVMa
import Derived.Test.YtogecbgngnjhgaaLibD
namespace Go.Proofs.Ytogecbgngnjhgaa
open Go Go.GL

/-- The mover's places. -/
def sg (t h j : Nat) : Nat := if t = 0 then j else if j < h then j + h else j - h
theorem sg_0 (h j : Nat) : sg 0 h j = j := if_pos rfl
theorem sg_1 (h j : Nat) : sg 1 h j = if j < h then j + h else j - h := if_neg (by decide)
theorem sg_lt {t h j : Nat} (hj : j < 2 * h) : sg t h j < 2 * h := by unfold sg; split <;> (try split) <;> omega
theorem sg_sg {t h j : Nat} (hj : j < 2 * h) : sg t h (sg t h j) = j := by
  unfold sg
  by_cases q : t = 0
  · rw [if_pos q, if_pos q]
  · rw [if_neg q, if_neg q]
    by_cases q2 : j < h
    · rw [if_pos q2, if_neg (by omega)]; omega
    · rw [if_neg q2, if_pos (by omega)]; omega
theorem sg_inj {t h i j : Nat} (hi : i < 2 * h) (hj : j < 2 * h) (e : sg t h i = sg t h j) : i = j := by
  rw [← sg_sg (t := t) hi, e, sg_sg hj]

def up (g : Nat → Int) (k : Nat) (x : Int) : Nat → Int := fun i => if i = k then x else g i
def bd (h : Nat) (g : Nat → Int) : List Int := mr (2 * h) g
def rot (t h : Nat) (g : Nat → Int) : List Int := mr (2 * h) (fun j => g (sg t h j))
theorem bd_len (h : Nat) (g : Nat → Int) : (bd h g).length = 2 * h := mr_length _ _
theorem rot_len (t h : Nat) (g : Nat → Int) : (rot t h g).length = 2 * h := mr_length _ _
theorem bd_get {h j : Nat} {g : Nat → Int} (hj : j < 2 * h) : geti (bd h g) (j : Int) = g j := mr_geti hj
theorem rot_get {t h j : Nat} {g : Nat → Int} (hj : j < 2 * h) : geti (rot t h g) (j : Int) = g (sg t h j) := mr_geti hj
theorem bd_set {h k : Nat} {g : Nat → Int} {x : Int} : (bd h g).set k x = bd h (up g k x) := mr_set k x
theorem rot_set {t h j : Nat} {g : Nat → Int} {x : Int} (hj : j < 2 * h) : (rot t h g).set j x = rot t h (up g (sg t h j) x) := by
  unfold rot
  rw [mr_set]
  exact mr_congr fun i hi => by
    unfold up
    by_cases q : i = j
    · subst q; rw [if_pos rfl, if_pos rfl]
    · rw [if_neg q, if_neg (fun e => q (sg_inj hi hj e))]
theorem rot_0 (h : Nat) (g : Nat → Int) : rot 0 h g = bd h g := mr_congr fun j _ => by rw [sg_0]

theorem cut_mr {n a b : Nat} {f : Nat → Int} (h1 : a ≤ b) (h2 : b ≤ n) : cut (mr n f) (a : Int) (b : Int) = mr (b - a) (fun i => f (a + i)) := by
  unfold cut
  rw [Int.toNat_natCast, show ((b : Int) - (a : Int)).toNat = b - a by omega]
  apply List.ext_getElem?
  intro j
  rw [List.getElem?_take]
  by_cases q : j < b - a
  · rw [if_pos q, List.getElem?_drop, mr_get (by omega), mr_get q]
  · rw [if_neg q, List.getElem?_eq_none (by rw [mr_length]; omega)]
theorem mr_app (a b : Nat) (f : Nat → Int) : mr a f ++ mr b (fun i => f (a + i)) = mr (a + b) f := by
  apply List.ext_getElem?
  intro j
  rcases Nat.lt_or_ge j a with h | h
  · rw [List.getElem?_append_left (by rw [mr_length]; exact h), mr_get h, mr_get (by omega)]
  · rw [List.getElem?_append_right (by rw [mr_length]; exact h), mr_length]
    rcases Nat.lt_or_ge j (a + b) with h2 | h2
    · rw [mr_get (by omega), mr_get h2, show a + (j - a) = j by omega]
    · rw [List.getElem?_eq_none (by rw [mr_length]; omega), List.getElem?_eq_none (by rw [mr_length]; omega)]
theorem putL_mr {n lo k : Nat} {f : Nat → Int} (h : lo + k ≤ n) : putL (mr n f) lo (List.replicate k (0 : Int)) = mr n (fun j => if lo ≤ j ∧ j < lo + k then 0 else f j) := by
  apply List.ext_getElem?
  intro j
  rw [putL_get (by rw [List.length_replicate, mr_length]; exact h), List.length_replicate]
  rcases Nat.lt_or_ge j n with h2 | h2
  · rw [mr_get h2, mr_get h2]
    by_cases q : lo ≤ j ∧ j < lo + k
    · rw [if_pos q, if_pos q, List.getElem?_replicate, if_pos (by omega)]
    · rw [if_neg q, if_neg q]
  · rw [if_neg (by omega), List.getElem?_eq_none (by rw [mr_length]; omega), List.getElem?_eq_none (by rw [mr_length]; omega)]

def Bdd (h : Nat) (g : Nat → Int) (K : Int) : Prop := ∀ j, j < 2 * h → 0 ≤ g j ∧ g j ≤ K
theorem Bdd.up' {h : Nat} {g : Nat → Int} {K : Int} (hg : Bdd h g K) {k : Nat} {x : Int} (hx : 0 ≤ x ∧ x ≤ K) : Bdd h (up g k x) K := by
  intro j hj
  unfold up
  by_cases q : j = k
  · rw [if_pos q]; exact hx
  · rw [if_neg q]; exact hg j hj
theorem Bdd.mono {h : Nat} {g : Nat → Int} {K K' : Int} (hg : Bdd h g K) (hk : K ≤ K') : Bdd h g K' := fun j hj => ⟨(hg j hj).1, Int.le_trans (hg j hj).2 hk⟩

theorem sum_p {n : Nat} {f : Nat → Int} (hn : n ≤ 14) (hf : ∀ i, i < n → 0 ≤ f i ∧ f i ≤ 1000000) : mancala_sum_m (mr n f) = some (sm n f) := by
  have bd := fun k (hk : k ≤ n) => sm_bd (f := f) (a := 0) (b := 1000000) k (fun i hi => hf i (by omega))
  have h := loop_from (step := mancala_sum_L1 (mr n f)) (s0 := (0, 0)) (r := sm n f) (fun k => (sm k f, (k : Int))) n rfl (by
    intro k hk
    have b1 := bd k (by omega)
    have b2 := hf k hk
    simp only [mancala_sum_L1, mancala_sum_J2, mancala_sum_J3]
    rw [if_pos (decide_eq_true (by rw [mr_length]; omega)), asrt_pos (by rw [mr_length]; omega), mr_geti hk, w64_of (x := (k : Int) + 1) (by omega), w64_of (by omega), sm_succ]
    rfl) (by
    simp only [mancala_sum_L1]
    rw [if_neg (by rw [mr_length]; simp)])
  unfold mancala_sum_m
  rw [h]; rfl

theorem sm_zero_iff {f : Nat → Int} : ∀ {n : Nat}, (∀ i, i < n → 0 ≤ f i) → (sm n f = 0 ↔ ∀ i, i < n → f i = 0)
  | 0, _ => ⟨fun _ i h => by omega, fun _ => rfl⟩
  | n + 1, h => by
    have ih := sm_zero_iff (n := n) (f := f) (fun i hi => h i (by omega))
    have hn := h n (by omega)
    have h0 : 0 ≤ sm n f := by
      clear ih
      have : ∀ m, m ≤ n → 0 ≤ sm m f := by
        intro m
        induction m with
        | zero => intro _; exact Int.le_refl _
        | succ m im => intro hm; have := im (by omega); have := h m (by omega); rw [sm_succ]; omega
      exact this n (Nat.le_refl _)
    rw [sm_succ]
    constructor
    · intro e i hi
      have e1 : sm n f = 0 := by omega
      by_cases q : i = n
      · rw [q]; omega
      · exact ih.1 e1 i (by omega)
    · intro e
      rw [ih.2 (fun i hi => e i (by omega)), e n (by omega)]; rfl

section
variable {t h p : Nat} (ht : t = 0 ∨ t = 1) (hp : h = p + 1) (hh : 2 ≤ h ∧ h ≤ 7)
include ht hp hh

omit ht in
theorem own_p (g : Nat → Int) : mancala_game_own_m (rot t h g) p = some (0, (p : Int)) := by
  unfold mancala_game_own_m
  rw [asrt_pos (by rw [rot_len]; omega)]
omit ht in
theorem other_p (g : Nat → Int) : mancala_game_other_m (rot t h g) p = some ((h : Int), ((h + p : Nat) : Int)) := by
  unfold mancala_game_other_m
  rw [w64_of (x := (p : Int) + 1) (by omega), w64_of (x := 2 * (p : Int)) (by omega), w64_of (by omega), asrt_pos (by rw [rot_len]; omega)]
  congr 2 <;> omega

open Classical in
/-- Over, from the seeds' places. -/
noncomputable def ovr (h p : Nat) (g : Nat → Int) : Bool := decide ((∀ i, i < p → g i = 0) ∨ (∀ i, i < p → g (h + i) = 0))

theorem over_p {g : Nat → Int} (hg : Bdd h g 1000000) : mancala_game_over_m (rot t h g) p = some (ovr h p g) := by
  classical
  have hb1 : ∀ i, i < p → 0 ≤ g (sg t h i) ∧ g (sg t h i) ≤ 1000000 := fun i hi => hg _ (sg_lt (by omega))
  have hb2 : ∀ i, i < p → 0 ≤ g (sg t h (h + i)) ∧ g (sg t h (h + i)) ≤ 1000000 := fun i hi => hg _ (sg_lt (by omega))
  have c1 : cut (rot t h g) 0 (p : Int) = mr p (fun i => g (sg t h i)) := by
    have := cut_mr (n := 2 * h) (a := 0) (b := p) (f := fun j => g (sg t h j)) (by omega) (by omega)
    simp only [Nat.zero_add, Nat.sub_zero] at this
    exact this
  have c2 : cut (rot t h g) (h : Int) ((h + p : Nat) : Int) = mr p (fun i => g (sg t h (h + i))) := by
    have := cut_mr (n := 2 * h) (a := h) (b := h + p) (f := fun j => g (sg t h j)) (by omega) (by omega)
    rw [show h + p - h = p by omega] at this
    exact this
  unfold mancala_game_over_m mancala_game_over_J1
  rw [own_p hp hh, Option.bind_some]
  dsimp only
  rw [c1, sum_p (by omega) hb1, Option.bind_some]
  have z1 := sm_zero_iff (n := p) (f := fun i => g (sg t h i)) (fun i hi => (hb1 i hi).1)
  have z2 := sm_zero_iff (n := p) (f := fun i => g (sg t h (h + i))) (fun i hi => (hb2 i hi).1)
  have key : ovr h p g = (sm p (fun i => g (sg t h i)) == 0 || sm p (fun i => g (sg t h (h + i))) == 0) := by
    unfold ovr
    rw [Bool.eq_iff_iff, decide_eq_true_eq, Bool.or_eq_true, beq_iff_eq, beq_iff_eq, z1, z2]
    rcases ht with rfl | rfl
    · simp only [sg_0]
    · have e1 : (∀ i, i < p → g (sg 1 h i) = 0) ↔ ∀ i, i < p → g (h + i) = 0 :=
        ⟨fun q i hi => by have := q i hi; rwa [sg_1, if_pos (by omega), Nat.add_comm] at this, fun q i hi => by rw [sg_1, if_pos (by omega), Nat.add_comm]; exact q i hi⟩
      have e2 : (∀ i, i < p → g (sg 1 h (h + i)) = 0) ↔ ∀ i, i < p → g i = 0 :=
        ⟨fun q i hi => by have := q i hi; rwa [sg_1, if_neg (by omega), Nat.add_sub_cancel_left] at this, fun q i hi => by rw [sg_1, if_neg (by omega), Nat.add_sub_cancel_left]; exact q i hi⟩
      rw [e1, e2]
      exact Or.comm
  rw [key]
  by_cases q : (sm p (fun i => g (sg t h i)) == 0) = true
  · rw [if_pos q, if_neg (by rw [q]; simp), Option.bind_some, q]; simp
  · have q' : (sm p (fun i => g (sg t h i)) == 0) = false := by simpa using q
    rw [if_neg q, other_p hp hh, Option.bind_some]
    dsimp only
    rw [c2, if_pos (by rw [q']; rfl), sum_p (by omega) hb2, Option.bind_some]

omit ht in
theorem half {b : List Int} (hl : b.length = 2 * h) : w64 (Int.tdiv (b.length : Int) 2) = (h : Int) := by
  rw [show Int.tdiv (b.length : Int) 2 = ((b.length / 2 : Nat) : Int) from tdiv_nat b.length 2, w64_nat (by omega)]; omega

omit ht in
open Classical in
theorem pits_r {g : Nat → Int} (hg : Bdd h g 1000000) {b2 : Int} {pl : Nat} (hpl : pl ≤ 1) : gameroomref_pitsEmpty_m (bd h g) b2 pl = some (decide (∀ i, i < p → g (pl * h + i) = 0)) := by
  have hH := half hp hh (bd_len h g)
  have hm : pl * h ≤ 1 * h := Nat.mul_le_mul_right h hpl
  have e1 : w64 ((pl : Int) * (h : Int)) = ((pl * h : Nat) : Int) := by rw [← Int.natCast_mul, w64_nat (by omega)]
  have key := count_loop (step := gameroomref_pitsEmpty_L1 (bd h g) pl) (fun (_ : Unit) (i : Nat) => (i : Int)) (fun n _ => ∀ i, i < n → g (pl * h + i) = 0) (fun r => r = if ∀ i, i < p → g (pl * h + i) = 0 then .go () else .ret false) p () (fun i q => by omega) (by
    rintro i - hi hI
    have s1 : gameroomref_pitsEmpty_L1 (bd h g) pl (i : Int) = gameroomref_pitsEmpty_J2 (bd h g) pl i := by
      simp only [gameroomref_pitsEmpty_L1]
      rw [hH, w64_of (x := (h : Int) - 1) (by omega), if_pos (decide_eq_true (by omega))]
    have hb := hg (pl * h + i) (by omega)
    rw [s1]
    unfold gameroomref_pitsEmpty_J2 gameroomref_pitsEmpty_J3
    rw [hH, e1, w64_of (x := ((pl * h : Nat) : Int) + (i : Int)) (by omega), show ((pl * h : Nat) : Int) + (i : Int) = ((pl * h + i : Nat) : Int) by omega, asrt_pos (by rw [bd_len]; omega), bd_get (by omega), w64_of (by omega)]
    by_cases q : g (pl * h + i) = 0
    · left
      refine ⟨(), by rw [if_neg (by rw [decide_eq_true_eq]; omega)]; rfl, fun k hk => ?_⟩
      by_cases e : k = i
      · rw [e]; exact q
      · exact hI k (by omega)
    · right
      exact ⟨.ret false, by rw [if_pos (decide_eq_true (by omega))], by rw [if_neg (fun z => q (z i hi))]⟩) (by
    rintro - hI
    refine ⟨.go (), ?_, by rw [if_pos hI]⟩
    simp only [gameroomref_pitsEmpty_L1]
    rw [hH, w64_of (x := (h : Int) - 1) (by omega), if_neg (by rw [decide_eq_true_eq]; omega)])
  obtain ⟨r, hr, rfl⟩ := key
  have hr' : loop (gameroomref_pitsEmpty_L1 (bd h g) pl) 0 = _ := hr
  unfold gameroomref_pitsEmpty_m
  rw [hr', Option.bind_some]
  by_cases q : ∀ i, i < p → g (pl * h + i) = 0
  · rw [if_pos q, decide_eq_true q]; rfl
  · rw [if_neg q, decide_eq_false q]; rfl

omit ht in
theorem over_r {g : Nat → Int} (hg : Bdd h g 1000000) (b2 : Int) : gameroomref_MancalaOver_m (bd h g) b2 = some (ovr h p g) := by
  classical
  have a0 := pits_r hp hh hg (b2 := b2) (pl := 0) (by decide)
  have a1 := pits_r hp hh hg (b2 := b2) (pl := 1) (by decide)
  simp only [Nat.zero_mul, Nat.zero_add, Nat.one_mul] at a0 a1
  unfold gameroomref_MancalaOver_m
  rw [show gameroomref_pitsEmpty_m (bd h g) b2 0 = _ from a0, Option.bind_some, show gameroomref_pitsEmpty_m (bd h g) b2 1 = _ from a1]
  unfold ovr
  by_cases q : ∀ i, i < p → g i = 0
  · rw [decide_eq_true q, if_neg (by simp), Option.bind_some, decide_eq_true (Or.inl q)]; rfl
  · rw [decide_eq_false q, if_pos (by rfl), Option.bind_some, Bool.false_or]
    congr 1
    rw [decide_eq_decide]
    exact ⟨Or.inr, fun z => z.resolve_left q⟩

/-! ### Sowing -/
omit hp hh in
theorem sg_next {j : Nat} (hj : j + 1 < 2 * h) : (sg t h j + 1) % (2 * h) = sg t h (j + 1) := by
  rcases ht with rfl | rfl
  · rw [sg_0, sg_0, Nat.mod_eq_of_lt hj]
  · rw [sg_1, sg_1]
    by_cases q : j + 1 < h
    · rw [if_pos (by omega), if_pos q, Nat.mod_eq_of_lt (by omega)]; omega
    · rw [if_neg q]
      by_cases q2 : j < h
      · rw [if_pos q2, show j + h + 1 = 2 * h by omega, Nat.mod_self]; omega
      · rw [if_neg q2, Nat.mod_eq_of_lt (by omega)]; omega
omit hp in
theorem sg_wrap : (sg t h (2 * h - 1) + 1) % (2 * h) = sg t h 0 := by
  rcases ht with rfl | rfl
  · rw [sg_0, sg_0, show 2 * h - 1 + 1 = 2 * h by omega, Nat.mod_self]
  · rw [sg_1, sg_1, if_neg (by omega), if_pos (by omega), Nat.mod_eq_of_lt (by omega)]; omega

omit hp in
theorem foreign_w : w64 (w64 (w64 (w64 (1 - (t : Int)) * (h : Int)) + (h : Int)) - 1) = ((sg t h (2 * h - 1) : Nat) : Int) := by
  rcases ht with rfl | rfl
  · rw [show w64 (1 - ((0 : Nat) : Int)) = 1 by decide, Int.one_mul, w64_nat (k := h) (by omega), w64_of (x := (h : Int) + (h : Int)) (by omega), w64_of (by omega), sg_0]; omega
  · rw [show w64 (1 - ((1 : Nat) : Int)) = 0 by decide, Int.zero_mul, show w64 0 = 0 by decide, w64_of (x := 0 + (h : Int)) (by omega), w64_of (by omega), sg_1, if_neg (by omega)]; omega
theorem own_w : w64 (w64 (w64 ((t : Int) * (h : Int)) + (h : Int)) - 1) = ((sg t h p : Nat) : Int) := by
  rcases ht with rfl | rfl
  · rw [show ((0 : Nat) : Int) * (h : Int) = 0 by simp, show w64 0 = 0 by decide, w64_of (x := 0 + (h : Int)) (by omega), w64_of (by omega), sg_0]; omega
  · rw [show ((1 : Nat) : Int) * (h : Int) = (h : Int) by simp, w64_nat (k := h) (by omega), w64_of (x := (h : Int) + (h : Int)) (by omega), w64_of (by omega), sg_1, if_pos (by omega)]; omega
omit hp in
theorem place_w {pit : Nat} (hpit : pit < h) : w64 (w64 ((t : Int) * (h : Int)) + (pit : Int)) = ((sg t h pit : Nat) : Int) := by
  rcases ht with rfl | rfl
  · rw [show ((0 : Nat) : Int) * (h : Int) = 0 by simp, show w64 0 = 0 by decide, w64_of (by omega), sg_0]; omega
  · rw [show ((1 : Nat) : Int) * (h : Int) = (h : Int) by simp, w64_nat (k := h) (by omega), w64_of (by omega), sg_1, if_pos (by omega)]; omega

/-- What so many seeds weigh where they are sown. -/
def So (om : Nat → Int) (p : Nat) : Nat → Nat → Int
  | _, 0 => 0
  | a, hd + 1 => om ((a + 1) % (2 * p + 1)) + So om p ((a + 1) % (2 * p + 1)) hd
/-- What the seeds weigh. -/
def wt (om : Nat → Int) (h : Nat) (g : Nat → Int) : Int := sm (2 * h) (fun j => g j * om j)
omit ht hp hh in
theorem wt_up {om : Nat → Int} {g : Nat → Int} {k : Nat} {x : Int} (hk : k < 2 * h) : wt om h (up g k x) = wt om h g + (x - g k) * om k := by
  unfold wt
  have e : ∀ n, sm n (fun j => up g k x j * om j) = sm n (fun j => g j * om j) + if k < n then (x - g k) * om k else 0 := by
    intro n
    induction n with
    | zero => rw [if_neg (by omega)]; rfl
    | succ n ih =>
      rw [sm_succ, sm_succ, ih]
      by_cases q : n = k
      · subst q
        rw [if_neg (by omega), if_pos (by omega)]
        unfold up
        rw [if_pos rfl, Int.sub_mul]
        omega
      · have : up g k x n = g n := by unfold up; rw [if_neg q]
        rw [this]
        by_cases q2 : k < n
        · rw [if_pos q2, if_pos (by omega)]; omega
        · rw [if_neg q2, if_neg (by omega)]; omega
  rw [e, if_pos hk]

theorem sow_both {b0 : List Int} (hl0 : b0.length = 2 * h) {r3 : List Int} (hl3 : r3.length = 2 * h) {g1 : List Int} (hl1 : g1.length = 2 * h) : ∀ (hd at_ : Nat) (g : Nat → Int) (K : Int), at_ < 2 * p + 1 → Bdd h g K → 0 ≤ K → K + hd ≤ 400000 →
    ∃ g' at', at' < 2 * p + 1 ∧ Bdd h g' 400000 ∧ loop (mancala_game_sow_2_L1 g1 p) (rot t h g, (hd : Int), (at_ : Int)) = some (rot t h g', ((at' : Nat) : Int)) ∧ loop (gameroomref_SowOf_L1 b0 t r3) (((sg t h at_ : Nat) : Int), bd h g, (hd : Int)) = some (((sg t h at' : Nat) : Int), bd h g') ∧ ∀ om : Nat → Int, (∀ j, j < 2 * h → om (sg t h j) = om j) → wt om h g' = wt om h g + So om p at_ hd := by
  intro hd
  induction hd with
  | zero =>
    intro at_ g K h1 hg hK hKd
    refine ⟨g, at_, h1, hg.mono (by omega), loop_done ?_, loop_done ?_, fun om _ => by show _ = _ + 0; omega⟩
    · simp only [mancala_game_sow_2_L1]; rw [if_neg (by decide)]
    · simp only [gameroomref_SowOf_L1]; rw [if_neg (by decide)]
  | succ hd ih =>
    intro at_ g K h1 hg hK hKd
    have e2 : w64 (w64 (2 * (p : Int)) + 1) = ((2 * p + 1 : Nat) : Int) := by rw [w64_of (x := 2 * (p : Int)) (by omega), w64_of (by omega)]; omega
    have hlt : (at_ + 1) % (2 * p + 1) < 2 * p + 1 := Nat.mod_lt _ (by omega)
    have hb := hg (sg t h ((at_ + 1) % (2 * p + 1))) (sg_lt (by omega))
    have hsl : sg t h ((at_ + 1) % (2 * p + 1)) < 2 * h := sg_lt (by omega)
    have hH := half hp hh hl0
    have hfo := foreign_w ht hh
    -- the program's turn
    have s1 : mancala_game_sow_2_L1 g1 p (rot t h g, ((hd + 1 : Nat) : Int), (at_ : Int)) = some (.next (rot t h (up g (sg t h ((at_ + 1) % (2 * p + 1))) (g (sg t h ((at_ + 1) % (2 * p + 1))) + 1)), (hd : Int), (((at_ + 1) % (2 * p + 1) : Nat) : Int))) := by
      simp only [mancala_game_sow_2_L1, mancala_game_sow_2_J2]
      rw [if_pos (decide_eq_true (by omega)), e2, w64_of (x := (at_ : Int) + 1) (by omega), show (at_ : Int) + 1 = ((at_ + 1 : Nat) : Int) from rfl, tmod_nat, asrt_pos (by omega), asrt_pos (by omega), asrt_pos (by omega), rot_get (by omega), Int.toNat_natCast, rot_set (by omega), w64_of (by omega), w64_of (by omega), show ((hd + 1 : Nat) : Int) - 1 = (hd : Int) by omega]
    -- the document's, where the place is not the foreign store
    have s2 : ∀ pl : Nat, pl < 2 * h → (pl + 1) % (2 * h) = sg t h ((at_ + 1) % (2 * p + 1)) → gameroomref_SowOf_L1 b0 t r3 (((pl : Nat) : Int), bd h g, ((hd + 1 : Nat) : Int)) = some (.next (((sg t h ((at_ + 1) % (2 * p + 1)) : Nat) : Int), bd h (up g (sg t h ((at_ + 1) % (2 * p + 1))) (g (sg t h ((at_ + 1) % (2 * p + 1))) + 1)), (hd : Int))) := by
      intro pl hpl e
      have hne : sg t h ((at_ + 1) % (2 * p + 1)) ≠ sg t h (2 * h - 1) := fun q => by
        have := sg_inj (by omega) (by omega) q
        omega
      simp only [gameroomref_SowOf_L1, gameroomref_SowOf_J5, gameroomref_SowOf_J6]
      rw [if_pos (decide_eq_true (by omega)), hH, hfo, asrt_pos (by omega), hl0, w64_of (x := ((pl : Nat) : Int) + 1) (by omega), show ((pl : Nat) : Int) + 1 = ((pl + 1 : Nat) : Int) from rfl, tmod_nat, e, if_neg (by rw [beq_iff_eq]; omega), asrt_pos (by omega), asrt_pos (by omega), bd_get hsl, Int.toNat_natCast, bd_set, w64_of (by omega), w64_of (by omega), show ((hd + 1 : Nat) : Int) - 1 = (hd : Int) by omega]
    have hg2 : Bdd h (up g (sg t h ((at_ + 1) % (2 * p + 1))) (g (sg t h ((at_ + 1) % (2 * p + 1))) + 1)) (K + 1) := (hg.mono (by omega)).up' (by omega)
    obtain ⟨g', at', a1, a2, a3, a4, a5⟩ := ih ((at_ + 1) % (2 * p + 1)) _ (K + 1) hlt hg2 (by omega) (by omega)
    refine ⟨g', at', a1, a2, loop_next' s1 a3, ?_, fun om hom => by
      rw [a5 om hom, wt_up hsl, hom _ (by omega)]
      show _ = _ + (om ((at_ + 1) % (2 * p + 1)) + So om p ((at_ + 1) % (2 * p + 1)) hd)
      rw [show g (sg t h ((at_ + 1) % (2 * p + 1))) + 1 - g (sg t h ((at_ + 1) % (2 * p + 1))) = 1 by omega]
      omega⟩
    have hpl : sg t h at_ < 2 * h := sg_lt (by omega)
    by_cases q : at_ + 1 < 2 * p + 1
    · have e := sg_next (h := h) ht (j := at_) (by omega)
      exact loop_next' (s2 _ hpl (by rw [e, Nat.mod_eq_of_lt q])) a4
    · have e : (sg t h at_ + 1) % (2 * h) = sg t h (2 * h - 1) := by
        have := sg_next (h := h) ht (j := at_) (by omega)
        rwa [show at_ + 1 = 2 * h - 1 by omega] at this
      have hfl : sg t h (2 * h - 1) < 2 * h := sg_lt (by omega)
      have s3 : gameroomref_SowOf_L1 b0 t r3 (((sg t h at_ : Nat) : Int), bd h g, ((hd + 1 : Nat) : Int)) = some (.next (((sg t h (2 * h - 1) : Nat) : Int), bd h g, ((hd + 1 : Nat) : Int))) := by
        simp only [gameroomref_SowOf_L1, gameroomref_SowOf_J5]
        rw [if_pos (decide_eq_true (by omega)), hH, hfo, asrt_pos (by omega), hl0, w64_of (x := ((sg t h at_ : Nat) : Int) + 1) (by omega), show ((sg t h at_ : Nat) : Int) + 1 = ((sg t h at_ + 1 : Nat) : Int) from rfl, tmod_nat, e, if_pos (by simp)]
      refine loop_next' s3 (loop_next' (s2 _ hfl ?_) a4)
      rw [sg_wrap ht hh, show at_ + 1 = 2 * p + 1 by omega, Nat.mod_self]
end
end Go.Proofs.Ytogecbgngnjhgaa
