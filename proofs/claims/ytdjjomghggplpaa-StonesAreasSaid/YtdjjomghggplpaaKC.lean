/-
  Stones: what the reference's regionOf and GroupOf tell.
-/
import Derived.Test.YtdjjomghggplpaaKB
namespace Go.Proofs.Ytdjjomghggplpaa
open Go Go.GL

/-- How many places are in. -/
def nT (l : List Bool) : Nat → Nat
  | 0 => 0
  | n + 1 => nT l n + (if getb l (n : Int) = true then 1 else 0)
theorem nT_le (l : List Bool) : ∀ n, nT l n ≤ n
  | 0 => Nat.le_refl 0
  | n + 1 => by
    have := nT_le l n
    unfold nT
    split <;> omega
theorem nT_mono {l m : List Bool} : ∀ n, (∀ b : Nat, b < n → getb l (b : Int) = true → getb m (b : Int) = true) → nT l n ≤ nT m n
  | 0, _ => Nat.le_refl 0
  | n + 1, h => by
    have := nT_mono n (fun b hb => h b (by omega))
    have h2 := h n (by omega)
    unfold nT
    by_cases q : getb l (n : Int) = true
    · rw [if_pos q, if_pos (h2 q)]; omega
    · rw [if_neg q]; omega
theorem nT_lt {l m : List Bool} : ∀ n, (∀ b : Nat, b < n → getb l (b : Int) = true → getb m (b : Int) = true) → (∃ b : Nat, b < n ∧ getb m (b : Int) = true ∧ ¬ getb l (b : Int) = true) → nT l n < nT m n
  | 0, _, ⟨b, hb, _⟩ => by omega
  | n + 1, h, ⟨b, hb, h1, h2⟩ => by
    have hm := nT_mono n (fun b hb => h b (by omega))
    unfold nT
    by_cases e : b = n
    · subst e
      rw [if_neg h2, if_pos h1]; omega
    · have := nT_lt n (fun b hb => h b (by omega)) ⟨b, by omega, h1, h2⟩
      have h3 := h n (by omega)
      by_cases q : getb l (n : Int) = true
      · rw [if_pos q, if_pos (h3 q)]; omega
      · rw [if_neg q]; omega

section
variable {W H : Int} {c : List Int} {p : Nat} {so : Int → Bool}

open Classical in
theorem beside_r (B : Dm W H c) {a b : Nat} (ha : a < c.length) (hb : b < c.length) : gameroomref_beside_m W H c a b = some (decide (Adj W a b)) := by
  have hW := B.w
  have hH := B.h
  obtain ⟨x1, y1, _⟩ := B.xy (p := (a : Int)) (by omega)
  obtain ⟨x2, y2, _⟩ := B.xy (p := (b : Int)) (by omega)
  unfold gameroomref_beside_m
  have n0 : W ≠ 0 := by omega
  rw [asrt_pos n0, asrt_pos n0, asrt_pos n0, asrt_pos n0]
  rw [Int.tmod_eq_emod_of_nonneg (by omega), Int.tmod_eq_emod_of_nonneg (by omega), Int.tdiv_eq_ediv_of_nonneg (by omega), Int.tdiv_eq_ediv_of_nonneg (by omega)]
  unfold Adj
  generalize (a : Int) % W = xa at *
  generalize (a : Int) / W = ya at *
  generalize (b : Int) % W = xb at *
  generalize (b : Int) / W = yb at *
  rw [w64_of (x := ya) (by omega), w64_of (x := yb) (by omega), w64_of (x := xa - xb) (by omega), w64_of (x := ya - yb) (by omega)]
  congr 1
  rw [Bool.eq_iff_iff]
  simp only [Bool.or_eq_true, Bool.and_eq_true, beq_iff_eq, decide_eq_true_eq]
  omega

theorem marks_r (B : Dm W H c) (v : Int) (o : Bool) : ∃ m, gameroomref_marks_m W H c v o = some m ∧ m.length = c.length ∧ ∀ b : Nat, b < c.length → (getb m b = true ↔ ((geti c b == v) != o) = true) := by
  have hsm := B.small
  unfold gameroomref_marks_m
  rw [asrt_pos (by unfold bigN; omega), Int.toNat_natCast]
  have key := count_loop (step := gameroomref_marks_L1 c v o) (fun (s : List Bool) (i : Nat) => (s, (i : Int))) (fun n s => s.length = c.length ∧ ∀ b : Nat, b < n → (getb s b = true ↔ ((geti c b == v) != o) = true)) (fun m => m.length = c.length ∧ ∀ b : Nat, b < c.length → (getb m b = true ↔ ((geti c b == v) != o) = true)) c.length (List.replicate c.length false) ⟨by simp, fun b hb => by omega⟩ (by
    rintro i s hi ⟨h1, h2⟩
    left
    refine ⟨s.set i ((geti c i == v) != o), ?_, by simpa using h1, fun b hb => ?_⟩
    · simp only [gameroomref_marks_L1]
      rw [if_pos (decide_eq_true (by omega))]
      unfold gameroomref_marks_J2 gameroomref_marks_J3
      rw [asrt_pos (by omega), asrt_pos (by omega), w64_of (by omega), Int.toNat_natCast]
      rfl
    · rw [getbs (by omega)]
      by_cases e : b = i
      · subst e; rw [if_pos rfl]
      · rw [if_neg e]; exact h2 b (by omega)) (by
    rintro s ⟨h1, h2⟩
    refine ⟨s, ?_, h1, h2⟩
    simp only [gameroomref_marks_L1]
    rw [if_neg (by simp)])
  obtain ⟨m, hm, h⟩ := key
  have hm' : loop (gameroomref_marks_L1 c v o) (List.replicate c.length false, 0) = some m := hm
  rw [hm']
  exact ⟨m, rfl, h⟩

/-- What a pass over the places keeps. -/
structure RInv (W : Int) (c : List Int) (so : Int → Bool) (p : Nat) (s : List Bool) : Prop where
  len : s.length = c.length
  sound : ∀ b : Nat, b < c.length → getb s b = true → Rch W c so p b
  hp : getb s p = true

def Pass (W : Int) (c : List Int) (so : Int → Bool) (s0 : List Bool) (D : Nat → Nat → Prop) (s : List Bool × Bool) : Prop :=
  (∀ b : Nat, b < c.length → getb s0 b = true → getb s.1 b = true) ∧ (s.2 = true → ∃ b : Nat, b < c.length ∧ getb s.1 b = true ∧ ¬ getb s0 b = true) ∧ (s.2 = false → s.1 = s0 ∧ ∀ a b : Nat, D a b → getb s0 a = true → b < c.length → so (geti c b) = true → Adj W a b → getb s0 b = true)

theorem pass_in (B : Dm W H c) {m : List Bool} (hm : m.length = c.length ∧ ∀ b : Nat, b < c.length → (getb m b = true ↔ so (geti c b) = true)) {s0 : List Bool} {a : Nat} (ha : a < c.length) {s : List Bool × Bool} (hI : RInv W c so p s.1) (hP : Pass W c so s0 (fun a' _ => a' < a) s) (hin : getb s.1 a = true) :
    ∃ s', loop (gameroomref_regionOf_L3 W H c m a) (s.1, s.2, 0) = some s' ∧ RInv W c so p s'.1 ∧ Pass W c so s0 (fun a' _ => a' < a + 1) s' := by
  classical
  have hsm := B.small
  have key := count_loop (step := gameroomref_regionOf_L3 W H c m a) (fun (s : List Bool × Bool) (i : Nat) => (s.1, s.2, (i : Int))) (fun n s => RInv W c so p s.1 ∧ getb s.1 a = true ∧ Pass W c so s0 (fun a' b' => a' < a ∨ (a' = a ∧ b' < n)) s) (fun s => RInv W c so p s.1 ∧ Pass W c so s0 (fun a' _ => a' < a + 1) s) c.length s ⟨hI, hin, hP.1, hP.2.1, fun h => ⟨(hP.2.2 h).1, fun a' b' hd => (hP.2.2 h).2 a' b' (by omega)⟩⟩ (by
    rintro i ⟨ins, ch⟩ hi ⟨h1, h2, h3, h4, h5⟩
    left
    simp only at h1 h2 h3 h4 h5 ⊢
    have hl : ins.length = c.length := h1.len
    have e1 : gameroomref_regionOf_L3 W H c m a (ins, ch, (i : Int)) = gameroomref_regionOf_J6 W H c m a ins ch i := by
      simp only [gameroomref_regionOf_L3]
      rw [Int.toNat_natCast, if_pos (decide_eq_true (by omega))]
    rw [e1]
    unfold gameroomref_regionOf_J6 gameroomref_regionOf_J7
    rw [Int.toNat_natCast, asrt_pos (by omega), asrt_pos (fun _ => by omega), w64_of (x := (i : Int) + 1) (by omega), beside_r B ha hi, Int.toNat_natCast]
    by_cases q : getb m i = true ∧ ¬ getb ins i = true ∧ Adj W a i
    · obtain ⟨q1, q2, q3⟩ := q
      have q2' : getb ins (i : Int) = false := by simpa using q2
      rw [q1, q2', decide_eq_true q3]
      simp only [Bool.not_false, Bool.and_self, if_true, Option.bind_some]
      rw [asrt_pos (by omega)]
      have hv := (hm.2 i hi).1 q1
      have hai : getb (ins.set i true) a = true := by rw [getbs (by omega)]; split <;> simp [h2]
      refine ⟨(ins.set i true, true), rfl, ⟨by simpa using hl, fun b hb hs => ?_, ?_⟩, hai, fun b hb hs => ?_, fun _ => ?_, fun h => by cases h⟩
      · rw [getbs (by omega)] at hs
        by_cases e : b = i
        · subst e
          exact .step (h1.sound a ha h2) q3 ⟨hi, hv⟩
        · rw [if_neg e] at hs
          exact h1.sound b hb hs
      · rw [getbs (by omega)]
        split
        · rfl
        · exact h1.hp
      · simp only
        rw [getbs (by omega)]
        split
        · rfl
        · exact h3 b hb hs
      · refine ⟨i, hi, by simp only; rw [getbs (by omega), if_pos rfl], fun hs => q2 (h3 i hi hs)⟩
    · have e : (((if (getb m (i : Int) && !(getb ins (i : Int))) = true then some (decide (Adj W a i)) else some false) : Option Bool).bind fun r1 => if ((getb m (i : Int) && !(getb ins (i : Int))) && r1) = true then asrt (0 ≤ (i : Int) ∧ (i : Int) < (c.length : Int)) (some (St.next (ins.set i true, true, (i : Int) + 1))) else (some (St.next (ins, ch, (i : Int) + 1)) : Option (St (List Bool × Bool × Int) (List Bool × Bool)))) = some (St.next (ins, ch, (i : Int) + 1)) := by
        by_cases q1 : getb m (i : Int) = true
        · by_cases q2 : getb ins (i : Int) = true
          · rw [q1, q2]; rfl
          · have q2' : getb ins (i : Int) = false := by simpa using q2
            rw [q1, q2', decide_eq_false (fun h => q ⟨q1, q2, h⟩)]; rfl
        · have q1' : getb m (i : Int) = false := by simpa using q1
          rw [q1']; rfl
      rw [e]
      refine ⟨(ins, ch), rfl, h1, h2, h3, h4, fun h => ?_⟩
      obtain ⟨g1, g2⟩ := h5 h
      refine ⟨g1, fun a' b' hd ha' hb' hv' had' => ?_⟩
      by_cases e' : a' = a ∧ b' = i
      · obtain ⟨rfl, rfl⟩ := e'
        rw [← g1]
        exact Classical.byContradiction fun hn => q ⟨(hm.2 b' hi).2 hv', hn, had'⟩
      · exact g2 a' b' (by omega) ha' hb' hv' had') (by
    rintro s ⟨h1, h2, h3, h4, h5⟩
    refine ⟨s, ?_, h1, h3, h4, fun h => ?_⟩
    · simp only [gameroomref_regionOf_L3]
      rw [Int.toNat_natCast, if_neg (by simp)]
    · obtain ⟨g1, g2⟩ := h5 h
      exact ⟨g1, fun a' b' hd ha' hb' => g2 a' b' (by omega) ha' hb'⟩)
  obtain ⟨r, hr, h⟩ := key
  exact ⟨r, hr, h⟩

theorem pass_all (B : Dm W H c) {m : List Bool} (hm : m.length = c.length ∧ ∀ b : Nat, b < c.length → (getb m b = true ↔ so (geti c b) = true)) {s0 : List Bool} (hI : RInv W c so p s0) :
    ∃ s', loop (gameroomref_regionOf_L2 W H c m) (s0, false, 0) = some s' ∧ RInv W c so p s'.1 ∧ Pass W c so s0 (fun a' _ => a' < c.length) s' := by
  have hsm := B.small
  have key := count_loop (step := gameroomref_regionOf_L2 W H c m) (fun (s : List Bool × Bool) (i : Nat) => (s.1, s.2, (i : Int))) (fun n s => RInv W c so p s.1 ∧ Pass W c so s0 (fun a' _ => a' < n) s) (fun s => RInv W c so p s.1 ∧ Pass W c so s0 (fun a' _ => a' < c.length) s) c.length (s0, false) ⟨hI, fun _ _ h => h, fun h => (by cases h), fun _ => ⟨rfl, fun a b h => by omega⟩⟩ (by
    rintro i ⟨ins, ch⟩ hi ⟨h1, h2⟩
    left
    simp only at h1 ⊢
    have hl : ins.length = c.length := h1.len
    have e1 : gameroomref_regionOf_L2 W H c m (ins, ch, (i : Int)) = gameroomref_regionOf_J3 W H c m ins ch i := by
      simp only [gameroomref_regionOf_L2]
      rw [Int.toNat_natCast, if_pos (decide_eq_true (by omega))]
    rw [e1]
    unfold gameroomref_regionOf_J3 gameroomref_regionOf_J4
    rw [Int.toNat_natCast, asrt_pos (by omega), w64_of (x := (i : Int) + 1) (by omega)]
    by_cases q : getb ins (i : Int) = true
    · obtain ⟨s', k1, k2, k3⟩ := pass_in B hm hi h1 h2 q
      rw [if_neg (by simp [q])]
      unfold gameroomref_regionOf_J5
      rw [k1, Option.bind_some]
      refine ⟨s', ?_, k2, k3⟩
      simp only [gameroomref_regionOf_K3, gameroomref_regionOf_J4]
      rw [w64_of (x := (i : Int) + 1) (by omega)]
      rfl
    · rw [if_pos (by simpa using q)]
      refine ⟨(ins, ch), rfl, h1, h2.1, h2.2.1, fun h => ?_⟩
      obtain ⟨g1, g2⟩ := h2.2.2 h
      refine ⟨g1, fun a' b' hd ha' hb' hv' had' => ?_⟩
      by_cases e : a' = i
      · subst e
        simp only at g1
        rw [← g1] at ha'
        exact absurd ha' q
      · exact g2 a' b' (by omega) ha' hb' hv' had') (by
    rintro s ⟨h1, h2⟩
    refine ⟨s, ?_, h1, h2⟩
    simp only [gameroomref_regionOf_L2]
    rw [Int.toNat_natCast, if_neg (by simp)])
  obtain ⟨r, hr, h⟩ := key
  exact ⟨r, hr, h⟩

theorem region_r (B : Dm W H c) (hp : p < c.length) {m : List Bool} (hm : m.length = c.length ∧ ∀ b : Nat, b < c.length → (getb m b = true ↔ so (geti c b) = true)) :
    ∃ r, gameroomref_regionOf_m W H c p m = some r ∧ r.length = c.length ∧ ∀ b : Nat, b < c.length → (getb r b = true ↔ Rch W c so p b) := by
  have hsm := B.small
  unfold gameroomref_regionOf_m
  rw [Int.toNat_natCast, Int.toNat_natCast, asrt_pos (by unfold bigN; omega), asrt_pos (by omega)]
  have hf : ∀ b : Nat, b < c.length → getb (List.replicate c.length false) (b : Int) = false := fun b hb => getb_some (by rw [List.getElem?_replicate, if_pos hb])
  have key : ∀ (n : Nat) (s : List Bool), c.length - nT s c.length < n → RInv W c so p s → ∃ r, loop (gameroomref_regionOf_L1 W H c m) (s, true) = some r ∧ r.length = c.length ∧ ∀ b : Nat, b < c.length → (getb r b = true ↔ Rch W c so p b) := by
    intro n
    induction n with
    | zero => intro s h; omega
    | succ n ih =>
      intro s hn hI
      obtain ⟨⟨s', ch⟩, k1, k2, k3, k4, k5⟩ := pass_all B hm hI
      have st : gameroomref_regionOf_L1 W H c m (s, true) = some (.next (s', ch)) := by
        simp only [gameroomref_regionOf_L1, if_true]
        unfold gameroomref_regionOf_J2
        rw [k1]
        rfl
      cases ch with
      | true =>
        have hlt := nT_lt c.length k3 (k4 rfl)
        have hle := nT_le s' c.length
        obtain ⟨r, h1, h2⟩ := ih s' (by simp only at hlt; omega) k2
        exact ⟨r, loop_next' st h1, h2⟩
      | false =>
        obtain ⟨g1, g2⟩ := k5 rfl
        simp only at g1
        subst g1
        refine ⟨s', loop_next' st (loop_done (by simp only [gameroomref_regionOf_L1]; rw [if_neg (by simp)])), k2.len, fun b hb => ⟨k2.sound b hb, fun h => ?_⟩⟩
        have : ∀ b, Rch W c so p b → getb s' (b : Int) = true := by
          intro b h
          induction h with
          | base => exact k2.hp
          | step h1 h2 h3 ih =>
            rename_i a b
            exact g2 a b (rch_lt hp h1) ih h3.1 h3.2 h2
        exact this b h
  obtain ⟨r, h1, h2, h3⟩ := key (c.length + 1) ((List.replicate c.length false).set p true) (by omega) ⟨by simp, (fun b hb hs => by
    rw [getbs (by simpa using hp)] at hs
    by_cases e : b = p
    · subst e; exact .base
    · rw [if_neg e, hf b hb] at hs
      exact absurd hs (by decide)), (by rw [getbs (by simpa using hp), if_pos rfl])⟩
  rw [h1]
  exact ⟨r, rfl, h2, h3⟩


open Classical in
theorem any_r (B : Dm W H c) {q : Nat → Prop} {r : List Bool} (r2 : r.length = c.length) (r3 : ∀ b : Nat, b < c.length → (getb r b = true ↔ q b)) {i : Nat} (hi : i < c.length) : gameroomref_besideAny_m W H c i r = some (decide (∃ a : Nat, a < c.length ∧ q a ∧ Adj W a i)) := by
  have hsm := B.small
  unfold gameroomref_besideAny_m
  have key := count_loop (step := gameroomref_besideAny_L1 W H c i r) (fun (_ : Unit) (k : Nat) => (k : Int)) (fun n _ => ∀ a : Nat, a < n → ¬ (q a ∧ Adj W a i)) (fun z => z = if ∃ a : Nat, a < c.length ∧ q a ∧ Adj W a i then .ret true else .go ()) c.length () (fun a ha => by omega) (by
    rintro k - hk hI
    have e1 : gameroomref_besideAny_L1 W H c i r (k : Int) = gameroomref_besideAny_J2 W H c i r k := if_pos (decide_eq_true (by omega))
    rw [e1]
    unfold gameroomref_besideAny_J2 gameroomref_besideAny_J3
    rw [asrt_pos (by omega), beside_r B hk hi, w64_of (by omega)]
    by_cases z : q k ∧ Adj W k i
    · right
      rw [(r3 k hk).2 z.1, decide_eq_true z.2]
      exact ⟨_, rfl, by rw [if_pos ⟨k, hk, z⟩]⟩
    · left
      refine ⟨(), ?_, fun a ha => ?_⟩
      · by_cases q1 : getb r (k : Int) = true
        · rw [q1, decide_eq_false (fun h => z ⟨(r3 k hk).1 q1, h⟩)]; rfl
        · have : getb r (k : Int) = false := by simpa using q1
          rw [this]; rfl
      · by_cases e : a = k
        · subst e; exact z
        · exact hI a (by omega)) (by
    rintro - hI
    refine ⟨.go (), ?_, ?_⟩
    · simp only [gameroomref_besideAny_L1]
      rw [if_neg (by simp; omega)]
    · rw [if_neg]
      rintro ⟨a, h0, h1, h2⟩
      exact hI a h0 ⟨h1, h2⟩)
  obtain ⟨z, hz, rfl⟩ := key
  have hq' : loop (gameroomref_besideAny_L1 W H c i r) 0 = _ := hz
  rw [hq', Option.bind_some]
  by_cases h : ∃ a : Nat, a < c.length ∧ q a ∧ Adj W a i
  · rw [if_pos h, decide_eq_true h]; rfl
  · rw [if_neg h, decide_eq_false h]; rfl

theorem rch_mk (hp : Mk c so p) {b : Nat} (h : Rch W c so p b) : Mk c so b := Reach.mk_of (mk := Mk c so) hp h
theorem rch_symm (hp : Mk c so p) {b : Nat} (h : Rch W c so p b) : Rch W c so b p := by
  induction h with
  | base => exact .base
  | step h1 h2 h3 ih =>
    rename_i a b
    exact (Reach.step (mk := Mk c so) .base h2.symm (rch_mk hp h1)).trans ih

theorem mem_grp {p b : Nat} : (b : Int) ∈ grpL W c so p ↔ b < c.length ∧ Rch W c so p b := by
  classical
  unfold grpL
  rw [List.mem_map]
  constructor
  · rintro ⟨d, hd, e⟩
    obtain rfl : d = b := by omega
    rw [List.mem_filter, List.mem_range, decide_eq_true_eq] at hd
    exact hd
  · intro h
    exact ⟨b, by rw [List.mem_filter, List.mem_range, decide_eq_true_eq]; exact h, rfl⟩
theorem grp_in {p : Nat} : ∀ q ∈ grpL W c so p, ∃ b : Nat, b < c.length ∧ q = b ∧ Rch W c so p b := by
  classical
  intro q hq
  unfold grpL at hq
  rw [List.mem_map] at hq
  obtain ⟨d, hd, rfl⟩ := hq
  rw [List.mem_filter, List.mem_range, decide_eq_true_eq] at hd
  exact ⟨d, hd.1, rfl, hd.2⟩
theorem mem_brd {p b : Nat} : (b : Int) ∈ brdL W c so p ↔ b < c.length ∧ Brd W c so p b := by
  classical
  unfold brdL
  rw [List.mem_map]
  constructor
  · rintro ⟨d, hd, e⟩
    obtain rfl : d = b := by omega
    rw [List.mem_filter, List.mem_range, decide_eq_true_eq] at hd
    exact hd
  · intro h
    exact ⟨b, by rw [List.mem_filter, List.mem_range, decide_eq_true_eq]; exact h, rfl⟩
theorem brd_in {p : Nat} : ∀ q ∈ brdL W c so p, ∃ b : Nat, b < c.length ∧ q = b ∧ Brd W c so p b := by
  classical
  intro q hq
  unfold brdL at hq
  rw [List.mem_map] at hq
  obtain ⟨d, hd, rfl⟩ := hq
  rw [List.mem_filter, List.mem_range, decide_eq_true_eq] at hd
  exact ⟨d, hd.1, rfl, hd.2⟩

/-- The first place of what is joined to it. -/
def Fst (W : Int) (c : List Int) (so : Int → Bool) (k : Nat) : Prop := Mk c so k ∧ ∀ j : Nat, j < k → Mk c so j → ¬ Rch W c so j k
/-- Places met before. -/
def Met (W : Int) (c : List Int) (so : Int → Bool) (k b : Nat) : Prop := ∃ j : Nat, j < k ∧ Mk c so j ∧ Rch W c so j b
theorem fst_iff {k : Nat} : Fst W c so k ↔ Mk c so k ∧ ¬ Met W c so k k := by
  unfold Fst Met
  constructor
  · rintro ⟨h1, h2⟩
    exact ⟨h1, fun ⟨j, h3, h4, h5⟩ => h2 j h3 h4 h5⟩
  · rintro ⟨h1, h2⟩
    exact ⟨h1, fun j h3 h4 h5 => h2 ⟨j, h3, h4, h5⟩⟩
theorem met_succ {k b : Nat} : Met W c so (k + 1) b ↔ Met W c so k b ∨ (Fst W c so k ∧ Rch W c so k b) := by
  constructor
  · rintro ⟨j, h1, h2, h3⟩
    by_cases e : j = k
    · subst e
      by_cases q : Met W c so j j
      · obtain ⟨i, q1, q2, q3⟩ := q
        exact Or.inl ⟨i, q1, q2, q3.trans h3⟩
      · exact Or.inr ⟨fst_iff.2 ⟨h2, q⟩, h3⟩
    · exact Or.inl ⟨j, by omega, h2, h3⟩
  · rintro (⟨j, h1, h2, h3⟩ | ⟨h1, h2⟩)
    · exact ⟨j, by omega, h2, h3⟩
    · exact ⟨k, by omega, h1.1, h2⟩
theorem met_mk {k b : Nat} (h : Met W c so k b) : Mk c so b := by
  obtain ⟨j, _, h2, h3⟩ := h
  exact rch_mk h2 h3
theorem fst_of (hb : Mk c so p) : ∃ k : Nat, k ≤ p ∧ Fst W c so k ∧ Rch W c so k p := by
  have : ∀ n, n ≤ p + 1 → Met W c so n p → ∃ k : Nat, k < n ∧ Fst W c so k ∧ Rch W c so k p := by
    intro n
    induction n with
    | zero => rintro - ⟨j, h, _⟩; omega
    | succ n ih =>
      intro hn h
      rcases met_succ.1 h with h | ⟨h1, h2⟩
      · obtain ⟨k, h3, h4⟩ := ih (by omega) h
        exact ⟨k, by omega, h4⟩
      · exact ⟨n, by omega, h1, h2⟩
  obtain ⟨k, h1, h2⟩ := this (p + 1) (Nat.le_refl _) ⟨p, by omega, hb, .base⟩
  exact ⟨k, by omega, h2⟩
theorem fst_uniq {k l b : Nat} (hk : Fst W c so k) (hl : Fst W c so l) (h1 : Rch W c so k b) (h2 : Rch W c so l b) : k = l := by
  rcases Nat.lt_trichotomy k l with h | h | h
  · exact absurd (h1.trans (rch_symm hl.1 h2)) (hl.2 k h hk.1)
  · exact h
  · exact absurd (h2.trans (rch_symm hk.1 h1)) (hk.2 l h hl.1)
theorem met_all {b : Nat} (hb : Mk c so b) : Met W c so c.length b := ⟨b, hb.1, hb, .base⟩
end
open Classical in
noncomputable def nR (L : Nat) (R : Nat → Prop) : Nat := ((List.range L).filter (fun b => decide (R b))).length
theorem nR_succ (L : Nat) (R : Nat → Prop) [Decidable (R L)] : nR (L + 1) R = nR L R + (if R L then 1 else 0) := by
  classical
  unfold nR
  rw [List.range_succ, List.filter_append, List.length_append]
  congr 1
  by_cases h : R L <;> simp [h]
theorem nR_false : ∀ L, nR L (fun _ => False) = 0
  | 0 => rfl
  | L + 1 => by rw [nR_succ, nR_false L]; rfl
theorem filt_or {A B : Nat → Prop} (hd : ∀ b, A b → ¬ B b) : ∀ L : Nat, nR L (fun b => A b ∨ B b) = nR L A + nR L B
  | 0 => rfl
  | L + 1 => by
    classical
    have ih := filt_or hd L
    rw [nR_succ, nR_succ, nR_succ, ih]
    by_cases ha : A L
    · have hb := hd L ha
      rw [if_pos (Or.inl ha), if_pos ha, if_neg hb]; omega
    · by_cases hb : B L
      · rw [if_pos (Or.inr hb), if_neg ha, if_pos hb]; omega
      · rw [if_neg (fun h => h.elim ha hb), if_neg ha, if_neg hb]; omega
theorem nR_le (L : Nat) (R : Nat → Prop) : nR L R ≤ L := by
  classical
  unfold nR
  refine Nat.le_trans (List.length_filter_le _ _) ?_
  rw [List.length_range]; exact Nat.le_refl _
theorem nR_congr {A B : Nat → Prop} : ∀ L : Nat, (∀ b, b < L → (A b ↔ B b)) → nR L A = nR L B
  | 0, _ => rfl
  | L + 1, h => by
    classical
    rw [nR_succ, nR_succ, nR_congr L (fun b hb => h b (by omega))]
    by_cases q : B L
    · rw [if_pos q, if_pos ((h L (by omega)).2 q)]
    · rw [if_neg q, if_neg (fun z => q ((h L (by omega)).1 z))]
theorem nR_mono {A B : Nat → Prop} : ∀ L : Nat, (∀ b, b < L → A b → B b) → nR L A ≤ nR L B
  | 0, _ => Nat.le_refl _
  | L + 1, h => by
    classical
    have := nR_mono L (fun b hb => h b (by omega))
    have h2 := h L (by omega)
    rw [nR_succ, nR_succ]
    by_cases q : A L
    · rw [if_pos q, if_pos (h2 q)]; omega
    · rw [if_neg q]; omega
theorem nR_lt {A B : Nat → Prop} (L : Nat) (h : ∀ b, b < L → A b → B b) {b : Nat} (hb : b < L) (h1 : B b) (h2 : ¬ A b) : nR L A < nR L B := by
  classical
  have : nR L (fun x => A x ∨ x = b) = nR L A + nR L (fun x => x = b) := filt_or (fun x hx e => h2 (by rw [← e]; exact hx)) L
  have h3 : ∀ n : Nat, b < n → 0 < nR n (fun x => x = b) := by
    intro n
    induction n with
    | zero => intro h; omega
    | succ n ih =>
      intro hn
      rw [nR_succ]
      by_cases e : n = b
      · rw [if_pos e]; omega
      · have := ih (by omega); omega
  have h4 := h3 L hb
  have h5 : nR L (fun x => A x ∨ x = b) ≤ nR L B := nR_mono L (fun x hx q => by
    rcases q with q | q
    · exact h x hx q
    · rw [q]; exact h1)
  omega
theorem grp_len {W : Int} {c : List Int} {so : Int → Bool} {p : Nat} : (grpL W c so p).length = nR c.length (Rch W c so p) := by
  unfold grpL nR
  rw [List.length_map]
end Go.Proofs.Ytdjjomghggplpaa
