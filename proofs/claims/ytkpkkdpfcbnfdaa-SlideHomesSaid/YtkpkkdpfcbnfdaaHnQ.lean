/-
  SlideHomes: the program's rings.
-/
import Derived.Test.YtkpkkdpfcbnfdaaHnP
namespace Go.Proofs.Ytkpkkdpfcbnfdaa
open Go Go.GL

abbrev Key6 := Int × Int × Int × Int × Int × Int
/-- A board's name. -/
def nk (c : List Nat) : Key6 := ((c.getD 0 0 : Nat), (c.getD 1 0 : Nat), (c.getD 2 0 : Nat), (c.getD 3 0 : Nat), (c.getD 4 0 : Nat), (c.getD 5 0 : Nat))
theorem len4 {c : List Nat} (h : c.length = 4) : ∃ x0 x1 x2 x3, c = [x0, x1, x2, x3] := by
  match c, h with
  | [x0, x1, x2, x3], _ => exact ⟨x0, x1, x2, x3, rfl⟩
theorem len6 {c : List Nat} (h : c.length = 6) : ∃ x0 x1 x2 x3 x4 x5, c = [x0, x1, x2, x3, x4, x5] := by
  match c, h with
  | [x0, x1, x2, x3, x4, x5], _ => exact ⟨x0, x1, x2, x3, x4, x5, rfl⟩
theorem name_p {c : List Nat} (h : c.length = 4 ∨ c.length = 6) : ∃ r, slide_nameOf_m (ci c) = some r ∧ ((geti r 0, geti r 1, geti r 2, geti r 3, geti r 4, geti r 5) : Key6) = nk c := by
  refine ⟨_, rfl, ?_⟩
  rcases h with h | h
  · obtain ⟨x0, x1, x2, x3, rfl⟩ := len4 h
    rfl
  · obtain ⟨x0, x1, x2, x3, x4, x5, rfl⟩ := len6 h
    rfl
theorem nk_inj {c d : List Nat} (h : c.length = 4 ∨ c.length = 6) (hd : d.length = c.length) (e : nk c = nk d) : c = d := by
  rcases h with h | h
  · obtain ⟨x0, x1, x2, x3, rfl⟩ := len4 h
    obtain ⟨y0, y1, y2, y3, rfl⟩ := len4 (hd.trans h)
    simp [nk] at e
    simp; omega
  · obtain ⟨x0, x1, x2, x3, x4, x5, rfl⟩ := len6 h
    obtain ⟨y0, y1, y2, y3, y4, y5, rfl⟩ := len6 (hd.trans h)
    simp [nk] at e
    simp; omega

/-- The direction by which a board was come to. -/
def dI (e : Ent) : Int := if e.2.2.2 = 4 then -1 else (e.2.2.2 : Int)
structure CameI (n : Nat) (S : List Ent) (came : List (Key6 × Int)) : Prop where
  has : ∀ c : List Nat, c.length = n → mhas (nk c) came = has S c
  get : ∀ e ∈ S, mget 0 (nk e.1) came = dI e

def gTr (w h : Nat) (S : List Ent) : List (Int × Int × List Int × Int) := S.map fun e => ((w : Int), (h : Int), ci e.1, (e.2.1 : Int))
theorem gTr_length {w h : Nat} (S : List Ent) : (gTr w h S).length = S.length := List.length_map _
theorem gTr_at {w h : Nat} {S : List Ent} {i : Nat} {e : Ent} (hi : S[i]? = some e) : getd zP100 (gTr w h S) (i : Int) = ((w : Int), (h : Int), ci e.1, (e.2.1 : Int)) := getd_some (by simp [gTr, hi])
theorem clone_p {l : List Int} (h : l.length ≤ 1000) : slices_Clone_m l = some l := by
  unfold slices_Clone_m slices_Clone_J1
  rw [asrt_pos (by unfold bigN; omega)]; rfl

section
variable {w h : Nat} (s : Shp w h) {F : List Ent} (D : Done w h F)
include s D

/-- One direction tried. T: the boards of the next ring, so far. -/
theorem ring_step {A T R : List Ent} {z d : Nat} {e : Ent} (hz : R[z]? = some e) (heF : e ∈ F) (hd : d < 4) {came : List (Key6 × Int)} (hc : CameI (w * h) (A ++ T) came) (hp : stp w h e (A ++ T) d <+: F) (zz : List (Int × Int × List Int × Int)) :
    ∃ T' came', stp w h e (A ++ T) d = A ++ T' ∧ CameI (w * h) (A ++ T') came' ∧
      slide_rings_L3 (gTr w h R) (z : Int) (came, gTr w h T, zz, (d : Int)) = some (.next (came', gTr w h T', zz, ((d + 1 : Nat) : Int))) := by
  have b := (el_ok (D.el e heF)).1
  have hlen := ((stp_pre e (A ++ T) d).trans hp).length_le
  rw [List.length_append] at hlen
  have hD := D.len
  have n6 := s.n
  simp only [slide_rings_L3]
  rw [if_pos (decide_eq_true (by omega))]
  unfold slide_rings_J7
  rw [gTr_at hz]
  dsimp only
  rw [clone_p (by rw [ci_length, b.len]; omega), Option.bind_some, mv_prog s b hd, Option.bind_some]
  cases k : src w h e.2.1 d with
  | none =>
    refine ⟨T, came, by unfold stp; rw [k], hc, ?_⟩
    dsimp only
    rw [if_pos (by decide)]
    unfold slide_rings_J8
    rw [w64_of (by omega)]; rfl
  | some a =>
    dsimp only
    have b2 := b.move s hd k
    have hn : (swp e.1 e.2.1 a).length = 4 ∨ (swp e.1 e.2.1 a).length = 6 := by rw [b2.len]; exact n6
    obtain ⟨r, hr, hk⟩ := name_p hn
    have st : stp w h e (A ++ T) d = if has (A ++ T) (swp e.1 e.2.1 a) then A ++ T else A ++ T ++ [(swp e.1 e.2.1 a, a, e.2.2.1 + 1, d)] := by unfold stp; rw [k]
    rw [if_neg (by decide)]
    unfold slide_rings_J9
    rw [hr, Option.bind_some, hk, hc.has _ b2.len]
    by_cases q : has (A ++ T) (swp e.1 e.2.1 a) = true
    · rw [if_pos q] at st
      refine ⟨T, came, st, hc, ?_⟩
      rw [q, if_neg (by decide)]
      unfold slide_rings_J8
      rw [w64_of (by omega)]; rfl
    · rw [if_neg q] at st
      have q2 : has (A ++ T) (swp e.1 e.2.1 a) = false := by simpa using q
      refine ⟨T ++ [(swp e.1 e.2.1 a, a, e.2.2.1 + 1, d)], mput (nk (swp e.1 e.2.1 a)) (d : Int) came, by rw [st, List.append_assoc], ?_, ?_⟩
      · rw [← List.append_assoc]
        constructor
        · intro c hcl
          rw [mhas_mput, hc.has c hcl, has_app, Bool.or_comm]
          congr 1
          rw [Bool.eq_iff_iff, decide_eq_true_eq, eqn_iff]
          constructor
          · intro u; exact (nk_inj (by rw [hcl]; exact n6) (by rw [b2.len, hcl]) u).symm
          · intro u; rw [← u]
        · intro x hx
          rw [mget_mput]
          rcases List.mem_append.1 hx with hx | hx
          · have hxF : x ∈ F := ((stp_pre e (A ++ T) d).trans hp).mem hx
            have bx := (el_ok (D.el x hxF)).1
            rw [if_neg, hc.get x hx]
            intro u
            have v := nk_inj (by rw [bx.len]; exact n6) (by rw [b2.len, bx.len]) u
            exact q (has_iff.2 ⟨x, hx, v⟩)
          · rw [List.mem_singleton] at hx
            subst hx
            rw [if_pos rfl]
            unfold dI
            dsimp only
            rw [if_neg (by omega)]
      · rw [q2, if_pos (by decide)]
        rw [Option.bind_some, asrt_pos (by rw [gTr_length]; unfold bigK; omega), hk, gTr_at hz]
        unfold slide_rings_J8
        rw [w64_of (by omega)]
        unfold gTr
        rw [List.map_append]; rfl

theorem ring_row {A T R : List Ent} {z : Nat} {e : Ent} (hz : R[z]? = some e) {i : Nat} (hi : A[i]? = some e) {n : Nat} (hb : bfs w h n (expd w h (A ++ T) i) (i + 1) = F) {came : List (Key6 × Int)} (hc : CameI (w * h) (A ++ T) came) (zz : List (Int × Int × List Int × Int)) :
    ∃ T' came', expd w h (A ++ T) i = A ++ T' ∧ CameI (w * h) (A ++ T') came' ∧
      loop (slide_rings_L3 (gTr w h R) (z : Int)) (came, gTr w h T, zz, 0) = some (came', gTr w h T', zz) := by
  have hp : expd w h (A ++ T) i <+: F := hb ▸ bfs_pre n _ _
  have hi2 : (A ++ T)[i]? = some e := pre_at' (List.prefix_append A T) hi
  have heF : e ∈ F := mem_at (pre_at' ((expd_pre (A ++ T) i).trans hp) hi2)
  have hx : expd w h (A ++ T) i = stp w h e (stp w h e (stp w h e (stp w h e (A ++ T) 0) 1) 2) 3 := by
    unfold expd
    rw [List.getD_eq_getElem?_getD, hi2]; rfl
  rw [hx] at hp
  have p2 := (stp_pre e (stp w h e (stp w h e (stp w h e (A ++ T) 0) 1) 2) 3).trans hp
  have p1 := (stp_pre e (stp w h e (stp w h e (A ++ T) 0) 1) 2).trans p2
  have p0 := (stp_pre e (stp w h e (A ++ T) 0) 1).trans p1
  obtain ⟨T0, c0, e0, h0, r0⟩ := ring_step s D hz heF (by omega : 0 < 4) hc p0 zz
  rw [e0] at p1 p2 hp hx
  obtain ⟨T1, c1, e1, h1, r1⟩ := ring_step s D hz heF (by omega : 1 < 4) h0 p1 zz
  rw [e1] at p2 hp hx
  obtain ⟨T2, c2, e2, h2, r2⟩ := ring_step s D hz heF (by omega : 2 < 4) h1 p2 zz
  rw [e2] at hp hx
  obtain ⟨T3, c3, e3, h3, r3⟩ := ring_step s D hz heF (by omega : 3 < 4) h2 hp zz
  rw [e3] at hx
  refine ⟨T3, c3, hx, h3, ?_⟩
  refine loop_next' r0 (loop_next' r1 (loop_next' r2 (loop_next' r3 (loop_done ?_))))
  simp only [slide_rings_L3]
  rw [if_neg (by decide)]

/-- A ring: all its boards are tried. B: the rings before. -/
theorem ring_all {B R : List Ent} {n : Nat} : ∀ (k z : Nat) (T : List Ent) (came : List (Key6 × Int)), z + k = R.length → bfs w h (n + k) (B ++ R ++ T) (B.length + z) = F → CameI (w * h) (B ++ R ++ T) came →
    ∃ T' came', bfs w h n (B ++ R ++ T') (B.length + R.length) = F ∧ T <+: T' ∧ CameI (w * h) (B ++ R ++ T') came' ∧
      (∀ q : Nat, (∀ e ∈ R, e.2.2.1 = q) → (∀ e ∈ T, e.2.2.1 = q + 1) → ∀ e ∈ T', e.2.2.1 = q + 1) ∧
      loop (slide_rings_L2 (gTr w h R)) (came, gTr w h T, gTr w h R, (z : Int)) = some (came', gTr w h T')
  | 0, z, T, came, hz, hb, hc => by
    refine ⟨T, came, by rw [← hz]; simpa using hb, List.prefix_refl _, hc, fun q _ h2 => h2, loop_done ?_⟩
    simp only [slide_rings_L2]
    rw [if_neg (by rw [gTr_length]; simp; omega)]
  | k + 1, z, T, came, hz, hb, hc => by
    have hzR : z < R.length := by omega
    obtain ⟨e, he⟩ : ∃ e, R[z]? = some e := ⟨_, List.getElem?_eq_getElem hzR⟩
    have hi : (B ++ R)[B.length + z]? = some e := by rw [List.getElem?_append_right (by omega)]; simpa using he
    have hin : B.length + z < (B ++ R ++ T).length := by simp only [List.length_append]; omega
    have hb2 : bfs w h (n + k) (expd w h (B ++ R ++ T) (B.length + z)) (B.length + z + 1) = F := by
      rw [show n + (k + 1) = (n + k) + 1 from rfl] at hb
      unfold bfs at hb
      rwa [if_pos hin] at hb
    obtain ⟨T1, c1, e1, h1, r1⟩ := ring_row s D he hi hb2 hc (gTr w h R)
    rw [e1] at hb2
    obtain ⟨T2, c2, hb3, hT, h2, hq, r2⟩ := ring_all k (z + 1) T1 c1 (by omega) hb2 h1
    have hF1 : (B ++ R ++ T1).length ≤ F.length := (hb2 ▸ bfs_pre (n + k) _ _ : (B ++ R ++ T1) <+: F).length_le
    simp only [List.length_append] at hF1
    have hD := D.len
    have hpre : (B ++ R ++ T) <+: (B ++ R ++ T1) := e1 ▸ expd_pre _ _
    have hTT : T <+: T1 := by rwa [List.prefix_append_right_inj] at hpre
    refine ⟨T2, c2, hb3, hTT.trans hT, h2, ?_, ?_⟩
    · intro q hR hTq
      refine hq q hR ?_
      have one : ∀ (X : List Ent) (d : Nat), (∀ x ∈ X, x.2.2.1 = q + 1) → ∃ Y, stp w h e (B ++ R ++ X) d = B ++ R ++ Y ∧ ∀ x ∈ Y, x.2.2.1 = q + 1 := fun X d hX => by
        unfold stp
        split
        · exact ⟨X, rfl, hX⟩
        · split
          · exact ⟨X, rfl, hX⟩
          · refine ⟨X ++ [_], (List.append_assoc _ _ _), fun x hx => ?_⟩
            rcases List.mem_append.1 hx with hx | hx
            · exact hX x hx
            · rw [List.mem_singleton] at hx; subst hx
              dsimp only
              rw [hR e (mem_at he)]
      have all : ∀ (l : List Nat) (X : List Ent), (∀ x ∈ X, x.2.2.1 = q + 1) → ∃ Y, l.foldl (stp w h e) (B ++ R ++ X) = B ++ R ++ Y ∧ ∀ x ∈ Y, x.2.2.1 = q + 1 := by
        intro l
        induction l with
        | nil => intro X hX; exact ⟨X, rfl, hX⟩
        | cons d l ih =>
          intro X hX
          obtain ⟨Y, h1, h2⟩ := one X d hX
          rw [List.foldl_cons, h1]
          exact ih Y h2
      obtain ⟨Y, y1, y2⟩ := all [0, 1, 2, 3] T hTq
      have : expd w h (B ++ R ++ T) (B.length + z) = B ++ R ++ Y := by
        unfold expd
        rw [List.getD_eq_getElem?_getD, pre_at' (List.prefix_append (B ++ R) T) hi]
        exact y1
      rw [e1] at this
      rw [List.append_cancel_left this]
      exact y2
    · refine loop_next' ?_ r2
      simp only [slide_rings_L2]
      rw [if_pos (decide_eq_true (by rw [gTr_length]; omega))]
      unfold slide_rings_J5
      rw [asrt_pos (by rw [gTr_length]; omega), r1, Option.bind_some]
      simp only [slide_rings_K3]
      unfold slide_rings_J6
      rw [w64_of (by omega)]; rfl
end
end Go.Proofs.Ytkpkkdpfcbnfdaa
namespace Go.Proofs.Ytkpkkdpfcbnfdaa
open Go Go.GL

theorem same_L2 : slide_rings_2_L2 = slide_rings_L2 := rfl

theorem bfs_end {w h : Nat} : ∀ (n : Nat) (S : List Ent), bfs w h n S S.length = S
  | 0, _ => rfl
  | n + 1, S => by unfold bfs; rw [if_neg (Nat.lt_irrefl _)]

/-- What is found after a ring lies farther. -/
theorem bfs_far {w h : Nat} {q : Nat} : ∀ (n : Nat) (S T : List Ent) (i : Nat), S.length ≤ i → (∀ e ∈ T, q ≤ e.2.2.1) → ∃ U, bfs w h n (S ++ T) i = S ++ U ∧ ∀ e ∈ U, q ≤ e.2.2.1
  | 0, S, T, i, _, hT => ⟨T, rfl, hT⟩
  | n + 1, S, T, i, hi, hT => by
    unfold bfs
    split
    · rename_i hl
      rw [List.length_append] at hl
      obtain ⟨e, he⟩ : ∃ e, T[i - S.length]? = some e := ⟨_, List.getElem?_eq_getElem (by omega)⟩
      have hi2 : (S ++ T)[i]? = some e := by rw [List.getElem?_append_right hi]; exact he
      have one : ∀ (X : List Ent) (d : Nat), (∀ x ∈ X, q ≤ x.2.2.1) → ∃ Y, stp w h e (S ++ X) d = S ++ Y ∧ ∀ x ∈ Y, q ≤ x.2.2.1 := fun X d hX => by
        unfold stp
        split
        · exact ⟨X, rfl, hX⟩
        · split
          · exact ⟨X, rfl, hX⟩
          · refine ⟨X ++ [_], (List.append_assoc _ _ _), fun x hx => ?_⟩
            rcases List.mem_append.1 hx with hx | hx
            · exact hX x hx
            · rw [List.mem_singleton] at hx; subst hx
              dsimp only
              have := hT e (mem_at he)
              omega
      have all : ∀ (l : List Nat) (X : List Ent), (∀ x ∈ X, q ≤ x.2.2.1) → ∃ Y, l.foldl (stp w h e) (S ++ X) = S ++ Y ∧ ∀ x ∈ Y, q ≤ x.2.2.1 := by
        intro l
        induction l with
        | nil => intro X hX; exact ⟨X, rfl, hX⟩
        | cons d l ih =>
          intro X hX
          obtain ⟨Y, h1, h2⟩ := one X d hX
          rw [List.foldl_cons, h1]
          exact ih Y h2
      obtain ⟨Y, y1, y2⟩ := all [0, 1, 2, 3] T hT
      have : expd w h (S ++ T) i = S ++ Y := by
        unfold expd
        rw [List.getD_eq_getElem?_getD, hi2]
        exact y1
      rw [this]
      exact bfs_far n S Y (i + 1) (by omega) y2
    · exact ⟨T, rfl, hT⟩

def cntF (S : List Ent) (q : Nat) : Nat := S.countP fun e => decide (e.2.2.1 = q)
theorem cntF_app (S T : List Ent) (q : Nat) : cntF (S ++ T) q = cntF S q + cntF T q := List.countP_append
theorem cntF_zero {S : List Ent} {q : Nat} (h : ∀ e ∈ S, e.2.2.1 ≠ q) : cntF S q = 0 := List.countP_eq_zero.2 fun e he => by simpa using h e he
theorem cntF_all {S : List Ent} {q : Nat} (h : ∀ e ∈ S, e.2.2.1 = q) : cntF S q = S.length := List.countP_eq_length.2 fun e he => by simpa using h e he

section
variable {w h : Nat} (s : Shp w h) {F : List Ent} (D : Done w h F)
include s D

theorem count_out : ∀ (n : Nat) (A R : List Ent) (came : List (Key6 × Int)) (q st : Nat), bfs w h n (A ++ R) A.length = F → F.length < A.length + n → CameI (w * h) (A ++ R) came → (∀ e ∈ A, e.2.2.1 < q) → (∀ e ∈ R, e.2.2.1 = q) → st ≤ 1000 →
    ∃ x, loop slide_rings_2_L1 ((st : Int), 0, came, gTr w h R) = some (x, ((cntF F (q + st) : Nat) : Int)) := by
  intro n
  induction n using Nat.strongRecOn with
  | ind n ih =>
    intro A R came q st hb hn hc hA hR hst
    have hD := D.len
    by_cases hr : R.length = 0
    · have hr0 := List.eq_nil_of_length_eq_zero hr
      subst hr0
      rw [List.append_nil, bfs_end] at hb
      subst hb
      refine ⟨(st : Int), loop_done ?_⟩
      simp only [slide_rings_2_L1]
      rw [gTr_length, if_neg (by decide)]
      unfold slide_rings_2_J3
      rw [if_neg (by simp), cntF_zero (fun e he => by have := hA e he; omega)]; rfl
    · have hlen : (A ++ R).length ≤ F.length := (hb ▸ bfs_pre n _ _ : (A ++ R) <+: F).length_le
      rw [List.length_append] at hlen
      obtain ⟨m, rfl⟩ : ∃ m, n = m + R.length := ⟨n - R.length, by omega⟩
      obtain ⟨T, c2, hb2, -, h2, hq, r2⟩ := ring_all s D (B := A) (R := R) (n := m) R.length 0 [] came (by omega) (by rw [List.append_nil]; simpa using hb) (by rw [List.append_nil]; exact hc)
      have hT := hq q hR (by simp)
      by_cases h0 : st = 0
      · subst h0
        obtain ⟨U, hU, hU2⟩ := bfs_far (w := w) (h := h) (q := q + 1) m (A ++ R) T (A.length + R.length) (by simp) (fun e he => by rw [hT e he]; exact Nat.le_refl _)
        have hcnt : cntF F (q + 0) = R.length := by
          rw [← hb2, hU, cntF_app, cntF_app, cntF_zero (fun e he => by have := hA e he; omega), cntF_all (fun e he => by rw [hR e he]; rfl), cntF_zero (fun e he => by have := hU2 e he; omega)]
          omega
        refine ⟨-1, loop_done ?_⟩
        simp only [slide_rings_2_L1]
        rw [gTr_length, if_pos (decide_eq_true (by omega))]
        unfold slide_Count_1_m
        rw [if_pos (show (((0 : Nat) : Int) == 0) = true from rfl)]
        unfold slide_Count_1_J1
        rw [Option.bind_some]
        dsimp only
        unfold slide_rings_2_J3
        rw [show w64 (((0 : Nat) : Int) - 1) = -1 by rw [w64_of (by omega)]; rfl, if_neg (by simp), hcnt, gTr_length]
      · obtain ⟨s1, rfl⟩ : ∃ s1, st = s1 + 1 := ⟨st - 1, by omega⟩
        obtain ⟨x, hx⟩ := ih m (by omega) (A ++ R) T c2 (q + 1) s1 (by rw [List.length_append]; exact hb2) (by rw [List.length_append]; omega) h2 (fun e he => by
          rcases List.mem_append.1 he with he | he
          · have := hA e he; omega
          · have := hR e he; omega) hT (by omega)
        refine ⟨x, ?_⟩
        rw [show q + (s1 + 1) = q + 1 + s1 by omega]
        refine loop_next' ?_ hx
        simp only [slide_rings_2_L1]
        rw [gTr_length, if_pos (decide_eq_true (by omega))]
        unfold slide_Count_1_m
        rw [if_neg (by simp; omega)]
        unfold slide_Count_1_J1
        rw [Option.bind_some]
        dsimp only
        unfold slide_rings_2_J3
        rw [show w64 (((s1 + 1 : Nat) : Int) - 1) = (s1 : Int) by rw [w64_of (by omega)]; omega]
        rw [if_pos (by simp; omega)]
        unfold slide_rings_2_J2
        rw [same_L2]
        have r3 : loop (slide_rings_L2 (gTr w h R)) (came, ([] : List (Int × Int × List Int × Int)), gTr w h R, 0) = some (c2, gTr w h T) := r2
        rw [r3, Option.bind_some]
        rfl
end
end Go.Proofs.Ytkpkkdpfcbnfdaa
namespace Go.Proofs.Ytkpkkdpfcbnfdaa
open Go Go.GL

def homeN (n : Nat) : List Nat := (List.range n).map (fun i => (i + 1) % n)
/-- Moves that lead home. -/
inductive Way (w h : Nat) : List Nat → Nat → List Int → Prop
  | home {c : List Nat} {g : Nat} (e : c = homeN (w * h)) : Way w h c g []
  | step {c : List Nat} {g a d : Nat} {l : List Int} (hd : d < 4) (k : src w h g d = some a) (r : Way w h (swp c g a) a l) : Way w h c g ((d : Int) :: l)

theorem opp_lt (d : Nat) : opp d < 4 := Nat.mod_lt _ (by omega)
theorem xor_opp {d : Nat} (h : d < 4) : bXor (d : Int) 2 = ((opp d : Nat) : Int) := by
  match d, h with
  | 0, _ => decide
  | 1, _ => decide
  | 2, _ => decide
  | 3, _ => decide

section
variable {w h : Nat} (s : Shp w h) {F : List Ent} (D : Done w h F)
include s D

theorem walk_p {S : List Ent} (hS : S <+: F) {came : List (Key6 × Int)} (hc : CameI (w * h) S came) (r2 : Int × Int × List Int × Int) (q1 : r2.1 = (w : Int)) (q2 : r2.2.1 = (h : Int)) : ∀ (f : Nat) (e : Ent), e ∈ S → e.2.2.1 = f →
    ∃ l : List Int, l.length = f ∧ Way w h e.1 e.2.1 l ∧ ∀ z : List Int, z.length + f ≤ 1000 → loop (slide_Home_1_L1 came r2) (z, ci e.1, (e.2.1 : Int)) = some (z ++ l) := by
  intro f
  induction f with
  | zero =>
    intro e he hf
    obtain ⟨j, hj⟩ := List.getElem?_of_mem he
    have hF := pre_at' hS hj
    have b := (el_ok (D.el e (mem_at hF))).1
    obtain ⟨r, hr, hk⟩ := name_p (c := e.1) (by rw [b.len]; exact s.n)
    match j with
    | 0 =>
      rw [D.hd, Option.some.injEq] at hF
      have e1 : e.1 = homeN (w * h) := by rw [← hF]; rfl
      have e2 : e.2.2.2 = 4 := by rw [← hF]
      refine ⟨[], rfl, .home e1, fun z _ => loop_done ?_⟩
      simp only [slide_Home_1_L1]
      rw [hr, Option.bind_some, hk, hc.get e he]
      unfold dI
      rw [if_pos e2, if_neg (by decide), List.append_nil]
    | j + 1 =>
      obtain ⟨p, -, a, -, -, -, h5, -⟩ := D.bk j e hF
      omega
  | succ f ih =>
    intro e he hf
    obtain ⟨j, hj⟩ := List.getElem?_of_mem he
    have hF := pre_at' hS hj
    have b := (el_ok (D.el e (mem_at hF))).1
    obtain ⟨r, hr, hk⟩ := name_p (c := e.1) (by rw [b.len]; exact s.n)
    match j with
    | 0 =>
      rw [D.hd, Option.some.injEq] at hF
      have e1 : e.2.2.1 = 0 := by rw [← hF]
      omega
    | j + 1 =>
      obtain ⟨p, hp, a, k, p1, p2, p3, p4⟩ := D.bk j e hF
      have hjS := (List.getElem?_eq_some_iff.1 hj).1
      have hpS : p ∈ S := by
        obtain ⟨t, rfl⟩ := hS
        rw [List.take_append_of_le_length (by omega)] at hp
        exact List.mem_of_mem_take hp
      obtain ⟨l, hl, hw, hloop⟩ := ih p hpS (by omega)
      rw [p2, p1] at hw
      refine ⟨((opp e.2.2.2 : Nat) : Int) :: l, by simp [hl], .step (opp_lt _) k hw, fun z hz => ?_⟩
      have hx := hloop (z ++ [((opp e.2.2.2 : Nat) : Int)]) (by simp; omega)
      rw [List.append_assoc, p1, p2] at hx
      refine loop_next' ?_ hx
      simp only [slide_Home_1_L1]
      rw [hr, Option.bind_some, hk, hc.get e he]
      have hdI : dI e = (e.2.2.2 : Int) := by unfold dI; rw [if_neg (by omega)]
      rw [hdI, if_pos (decide_eq_true (by omega))]
      unfold slide_Home_1_J3
      rw [hr, Option.bind_some, hk, hc.get e he, hdI, xor_opp p4, q1, q2, mv_prog s b (opp_lt _), k, Option.bind_some, asrt_pos (by unfold bigN; omega)]

omit D in
theorem tray_p {c : List Nat} {g : Nat} (b : Brd w h c g) : slide_newTray_m w h (ci c) = some ((w : Int), (h : Int), ci c, (g : Int)) := by
  have n6 := s.n6
  have hl : (ci c).length ≤ 1000 := by rw [ci_length, b.len]; omega
  unfold slide_newTray_m
  rw [clone_p hl, Option.bind_some, b.gap.index hl, Option.bind_some]
  rfl

theorem home_out {e0 : Ent} (he0 : e0 ∈ F) (hfar : e0.2.2.1 ≤ 400) : ∀ (n : Nat) (A R : List Ent) (came : List (Key6 × Int)), bfs w h n (A ++ R) A.length = F → F.length < A.length + n → CameI (w * h) (A ++ R) came → has A e0.1 = false →
    ∃ l : List Int, l.length = e0.2.2.1 ∧ Way w h e0.1 e0.2.1 l ∧ loop (slide_rings_L1 w h (ci e0.1)) (([] : List Int), came, gTr w h R) = some l := by
  intro n
  induction n using Nat.strongRecOn with
  | ind n ih =>
    intro A R came hb hn hc hA
    have hD := D.len
    have b0 := (el_ok (D.el e0 he0)).1
    by_cases hr : R.length = 0
    · have hr0 := List.eq_nil_of_length_eq_zero hr
      subst hr0
      rw [List.append_nil, bfs_end] at hb
      subst hb
      rw [has_iff.2 ⟨e0, he0, rfl⟩] at hA
      cases hA
    · have hpre : (A ++ R) <+: F := hb ▸ bfs_pre n _ _
      have hlen := hpre.length_le
      rw [List.length_append] at hlen
      obtain ⟨r, hnr, hk⟩ := name_p (c := e0.1) (by rw [b0.len]; exact s.n)
      by_cases q : has (A ++ R) e0.1 = true
      · obtain ⟨e1, he1, hee⟩ := has_iff.1 q
        have : e1 = e0 := inj_of_nodup D.nm e1 (hpre.mem he1) e0 he0 (by rw [hee])
        subst this
        obtain ⟨l, hl, hw, hloop⟩ := walk_p s D hpre hc ((w : Int), (h : Int), ci e1.1, (e1.2.1 : Int)) rfl rfl e1.2.2.1 e1 he1 rfl
        refine ⟨l, hl, hw, loop_done ?_⟩
        simp only [slide_rings_L1]
        rw [gTr_length, if_pos (decide_eq_true (by omega))]
        unfold slide_Home_1_m
        rw [hnr, Option.bind_some, hk, hc.has _ b0.len, q, if_neg (by decide)]
        unfold slide_Home_1_J1
        rw [tray_p s b0, Option.bind_some]
        dsimp only
        rw [hloop [] (by simp; omega), Option.bind_some]
        simp only [slide_Home_1_K1]
        unfold slide_Home_1_J2
        rw [Option.bind_some]
        dsimp only
        unfold slide_rings_J3
        rw [if_neg (by simp), List.nil_append]
      · have q2 : has (A ++ R) e0.1 = false := by simpa using q
        obtain ⟨m, rfl⟩ : ∃ m, n = m + R.length := ⟨n - R.length, by omega⟩
        obtain ⟨T, c2, hb2, -, h2, -, r2⟩ := ring_all s D (B := A) (R := R) (n := m) R.length 0 [] came (by omega) (by rw [List.append_nil]; simpa using hb) (by rw [List.append_nil]; exact hc)
        obtain ⟨l, hl, hw, hx⟩ := ih m (by omega) (A ++ R) T c2 (by rw [List.length_append]; exact hb2) (by rw [List.length_append]; omega) h2 q2
        refine ⟨l, hl, hw, loop_next' ?_ hx⟩
        simp only [slide_rings_L1]
        rw [gTr_length, if_pos (decide_eq_true (by omega))]
        unfold slide_Home_1_m
        rw [hnr, Option.bind_some, hk, hc.has _ b0.len, q2, if_pos (by decide), Option.bind_some]
        dsimp only
        unfold slide_rings_J3
        rw [if_pos (by simp; omega)]
        unfold slide_rings_J2
        have r3 : loop (slide_rings_L2 (gTr w h R)) (came, ([] : List (Int × Int × List Int × Int)), gTr w h R, 0) = some (c2, gTr w h T) := r2
        rw [r3, Option.bind_some]
        rfl
end
end Go.Proofs.Ytkpkkdpfcbnfdaa
