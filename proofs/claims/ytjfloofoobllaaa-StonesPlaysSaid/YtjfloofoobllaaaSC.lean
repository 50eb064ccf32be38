/-
  Stones: what the reference's regionOf and GroupOf tell.
-/
import Derived.Test.YtjfloofoobllaaaSB
namespace Go.Proofs.Ytjfloofoobllaaa
open Go Go.GL

/-- How many places are in. -/
def nT (l : List Bool) : Nat → Nat
  | 0 => 0
  | n + 1 => nT l n + (if getb l (n : Int) = true then 1 else 0)
theorem nT_le (l : List Bool) : ∀ n, nT l n ≤ n
  | 0 => Nat.le_refl 0
  | n + 1 => by
    have := nT_le l n
    unfold nT
    split <;> omega
theorem nT_mono {l m : List Bool} : ∀ n, (∀ b : Nat, b < n → getb l (b : Int) = true → getb m (b : Int) = true) → nT l n ≤ nT m n
  | 0, _ => Nat.le_refl 0
  | n + 1, h => by
    have := nT_mono n (fun b hb => h b (by omega))
    have h2 := h n (by omega)
    unfold nT
    by_cases q : getb l (n : Int) = true
    · rw [if_pos q, if_pos (h2 q)]; omega
    · rw [if_neg q]; omega
theorem nT_lt {l m : List Bool} : ∀ n, (∀ b : Nat, b < n → getb l (b : Int) = true → getb m (b : Int) = true) → (∃ b : Nat, b < n ∧ getb m (b : Int) = true ∧ ¬ getb l (b : Int) = true) → nT l n < nT m n
  | 0, _, ⟨b, hb, _⟩ => by omega
  | n + 1, h, ⟨b, hb, h1, h2⟩ => by
    have hm := nT_mono n (fun b hb => h b (by omega))
    unfold nT
    by_cases e : b = n
    · subst e
      rw [if_neg h2, if_pos h1]; omega
    · have := nT_lt n (fun b hb => h b (by omega)) ⟨b, by omega, h1, h2⟩
      have h3 := h n (by omega)
      by_cases q : getb l (n : Int) = true
      · rw [if_pos q, if_pos (h3 q)]; omega
      · rw [if_neg q]; omega

section
variable {W H : Int} {c : List Int} {p : Nat} {v : Int}

open Classical in
theorem beside_r (B : Dm W H c) {a b : Nat} (ha : a < c.length) (hb : b < c.length) : gameroomref_beside_m W H c a b = some (decide (Adj W a b)) := by
  have hW := B.w
  have hH := B.h
  obtain ⟨x1, y1, _⟩ := B.xy (p := (a : Int)) (by omega)
  obtain ⟨x2, y2, _⟩ := B.xy (p := (b : Int)) (by omega)
  unfold gameroomref_beside_m
  have n0 : W ≠ 0 := by omega
  rw [asrt_pos n0, asrt_pos n0, asrt_pos n0, asrt_pos n0]
  rw [Int.tmod_eq_emod_of_nonneg (by omega), Int.tmod_eq_emod_of_nonneg (by omega), Int.tdiv_eq_ediv_of_nonneg (by omega), Int.tdiv_eq_ediv_of_nonneg (by omega)]
  unfold Adj
  generalize (a : Int) % W = xa at *
  generalize (a : Int) / W = ya at *
  generalize (b : Int) % W = xb at *
  generalize (b : Int) / W = yb at *
  rw [w64_of (x := ya) (by omega), w64_of (x := yb) (by omega), w64_of (x := xa - xb) (by omega), w64_of (x := ya - yb) (by omega)]
  congr 1
  rw [Bool.eq_iff_iff]
  simp only [Bool.or_eq_true, Bool.and_eq_true, beq_iff_eq, decide_eq_true_eq]
  omega

theorem marks_r (B : Dm W H c) (v : Int) : ∃ m, gameroomref_marks_m W H c v false = some m ∧ m.length = c.length ∧ ∀ b : Nat, b < c.length → (getb m b = true ↔ geti c b = v) := by
  have hsm := B.small
  unfold gameroomref_marks_m
  rw [asrt_pos (by unfold bigN; omega), Int.toNat_natCast]
  have key := count_loop (step := gameroomref_marks_L1 c v false) (fun (s : List Bool) (i : Nat) => (s, (i : Int))) (fun n s => s.length = c.length ∧ ∀ b : Nat, b < n → (getb s b = true ↔ geti c b = v)) (fun m => m.length = c.length ∧ ∀ b : Nat, b < c.length → (getb m b = true ↔ geti c b = v)) c.length (List.replicate c.length false) ⟨by simp, fun b hb => by omega⟩ (by
    rintro i s hi ⟨h1, h2⟩
    left
    refine ⟨s.set i (geti c i == v), ?_, by simpa using h1, fun b hb => ?_⟩
    · simp only [gameroomref_marks_L1]
      rw [if_pos (decide_eq_true (by omega))]
      unfold gameroomref_marks_J2 gameroomref_marks_J3
      rw [asrt_pos (by omega), asrt_pos (by omega), w64_of (by omega), Int.toNat_natCast]
      simp
    · rw [getbs (by omega)]
      by_cases e : b = i
      · subst e; simp
      · rw [if_neg e]; exact h2 b (by omega)) (by
    rintro s ⟨h1, h2⟩
    refine ⟨s, ?_, h1, h2⟩
    simp only [gameroomref_marks_L1]
    rw [if_neg (by simp)])
  obtain ⟨m, hm, h⟩ := key
  have hm' : loop (gameroomref_marks_L1 c v false) (List.replicate c.length false, 0) = some m := hm
  rw [hm']
  exact ⟨m, rfl, h⟩

/-- What a pass over the places keeps. -/
structure RInv (W : Int) (c : List Int) (v : Int) (p : Nat) (s : List Bool) : Prop where
  len : s.length = c.length
  sound : ∀ b : Nat, b < c.length → getb s b = true → Rch W c v p b
  hp : getb s p = true

def Pass (W : Int) (c : List Int) (v : Int) (s0 : List Bool) (D : Nat → Nat → Prop) (s : List Bool × Bool) : Prop :=
  (∀ b : Nat, b < c.length → getb s0 b = true → getb s.1 b = true) ∧ (s.2 = true → ∃ b : Nat, b < c.length ∧ getb s.1 b = true ∧ ¬ getb s0 b = true) ∧ (s.2 = false → s.1 = s0 ∧ ∀ a b : Nat, D a b → getb s0 a = true → b < c.length → geti c b = v → Adj W a b → getb s0 b = true)

theorem pass_in (B : Dm W H c) {m : List Bool} (hm : m.length = c.length ∧ ∀ b : Nat, b < c.length → (getb m b = true ↔ geti c b = v)) {s0 : List Bool} {a : Nat} (ha : a < c.length) {s : List Bool × Bool} (hI : RInv W c v p s.1) (hP : Pass W c v s0 (fun a' _ => a' < a) s) (hin : getb s.1 a = true) :
    ∃ s', loop (gameroomref_regionOf_L3 W H c m a) (s.1, s.2, 0) = some s' ∧ RInv W c v p s'.1 ∧ Pass W c v s0 (fun a' _ => a' < a + 1) s' := by
  classical
  have hsm := B.small
  have key := count_loop (step := gameroomref_regionOf_L3 W H c m a) (fun (s : List Bool × Bool) (i : Nat) => (s.1, s.2, (i : Int))) (fun n s => RInv W c v p s.1 ∧ getb s.1 a = true ∧ Pass W c v s0 (fun a' b' => a' < a ∨ (a' = a ∧ b' < n)) s) (fun s => RInv W c v p s.1 ∧ Pass W c v s0 (fun a' _ => a' < a + 1) s) c.length s ⟨hI, hin, hP.1, hP.2.1, fun h => ⟨(hP.2.2 h).1, fun a' b' hd => (hP.2.2 h).2 a' b' (by omega)⟩⟩ (by
    rintro i ⟨ins, ch⟩ hi ⟨h1, h2, h3, h4, h5⟩
    left
    simp only at h1 h2 h3 h4 h5 ⊢
    have hl : ins.length = c.length := h1.len
    have e1 : gameroomref_regionOf_L3 W H c m a (ins, ch, (i : Int)) = gameroomref_regionOf_J6 W H c m a ins ch i := by
      simp only [gameroomref_regionOf_L3]
      rw [Int.toNat_natCast, if_pos (decide_eq_true (by omega))]
    rw [e1]
    unfold gameroomref_regionOf_J6 gameroomref_regionOf_J7
    rw [Int.toNat_natCast, asrt_pos (by omega), asrt_pos (fun _ => by omega), w64_of (x := (i : Int) + 1) (by omega), beside_r B ha hi, Int.toNat_natCast]
    by_cases q : getb m i = true ∧ ¬ getb ins i = true ∧ Adj W a i
    · obtain ⟨q1, q2, q3⟩ := q
      have q2' : getb ins (i : Int) = false := by simpa using q2
      rw [q1, q2', decide_eq_true q3]
      simp only [Bool.not_false, Bool.and_self, if_true, Option.bind_some]
      rw [asrt_pos (by omega)]
      have hv := (hm.2 i hi).1 q1
      have hai : getb (ins.set i true) a = true := by rw [getbs (by omega)]; split <;> simp [h2]
      refine ⟨(ins.set i true, true), rfl, ⟨by simpa using hl, fun b hb hs => ?_, ?_⟩, hai, fun b hb hs => ?_, fun _ => ?_, fun h => by cases h⟩
      · rw [getbs (by omega)] at hs
        by_cases e : b = i
        · subst e
          exact .step (h1.sound a ha h2) q3 ⟨hi, hv⟩
        · rw [if_neg e] at hs
          exact h1.sound b hb hs
      · rw [getbs (by omega)]
        split
        · rfl
        · exact h1.hp
      · simp only
        rw [getbs (by omega)]
        split
        · rfl
        · exact h3 b hb hs
      · refine ⟨i, hi, by simp only; rw [getbs (by omega), if_pos rfl], fun hs => q2 (h3 i hi hs)⟩
    · have e : (((if (getb m (i : Int) && !(getb ins (i : Int))) = true then some (decide (Adj W a i)) else some false) : Option Bool).bind fun r1 => if ((getb m (i : Int) && !(getb ins (i : Int))) && r1) = true then asrt (0 ≤ (i : Int) ∧ (i : Int) < (c.length : Int)) (some (St.next (ins.set i true, true, (i : Int) + 1))) else (some (St.next (ins, ch, (i : Int) + 1)) : Option (St (List Bool × Bool × Int) (List Bool × Bool)))) = some (St.next (ins, ch, (i : Int) + 1)) := by
        by_cases q1 : getb m (i : Int) = true
        · by_cases q2 : getb ins (i : Int) = true
          · rw [q1, q2]; rfl
          · have q2' : getb ins (i : Int) = false := by simpa using q2
            rw [q1, q2', decide_eq_false (fun h => q ⟨q1, q2, h⟩)]; rfl
        · have q1' : getb m (i : Int) = false := by simpa using q1
          rw [q1']; rfl
      rw [e]
      refine ⟨(ins, ch), rfl, h1, h2, h3, h4, fun h => ?_⟩
      obtain ⟨g1, g2⟩ := h5 h
      refine ⟨g1, fun a' b' hd ha' hb' hv' had' => ?_⟩
      by_cases e' : a' = a ∧ b' = i
      · obtain ⟨rfl, rfl⟩ := e'
        rw [← g1]
        exact Classical.byContradiction fun hn => q ⟨(hm.2 b' hi).2 hv', hn, had'⟩
      · exact g2 a' b' (by omega) ha' hb' hv' had') (by
    rintro s ⟨h1, h2, h3, h4, h5⟩
    refine ⟨s, ?_, h1, h3, h4, fun h => ?_⟩
    · simp only [gameroomref_regionOf_L3]
      rw [Int.toNat_natCast, if_neg (by simp)]
    · obtain ⟨g1, g2⟩ := h5 h
      exact ⟨g1, fun a' b' hd ha' hb' => g2 a' b' (by omega) ha' hb'⟩)
  obtain ⟨r, hr, h⟩ := key
  exact ⟨r, hr, h⟩

theorem pass_all (B : Dm W H c) {m : List Bool} (hm : m.length = c.length ∧ ∀ b : Nat, b < c.length → (getb m b = true ↔ geti c b = v)) {s0 : List Bool} (hI : RInv W c v p s0) :
    ∃ s', loop (gameroomref_regionOf_L2 W H c m) (s0, false, 0) = some s' ∧ RInv W c v p s'.1 ∧ Pass W c v s0 (fun a' _ => a' < c.length) s' := by
  have hsm := B.small
  have key := count_loop (step := gameroomref_regionOf_L2 W H c m) (fun (s : List Bool × Bool) (i : Nat) => (s.1, s.2, (i : Int))) (fun n s => RInv W c v p s.1 ∧ Pass W c v s0 (fun a' _ => a' < n) s) (fun s => RInv W c v p s.1 ∧ Pass W c v s0 (fun a' _ => a' < c.length) s) c.length (s0, false) ⟨hI, fun _ _ h => h, fun h => (by cases h), fun _ => ⟨rfl, fun a b h => by omega⟩⟩ (by
    rintro i ⟨ins, ch⟩ hi ⟨h1, h2⟩
    left
    simp only at h1 ⊢
    have hl : ins.length = c.length := h1.len
    have e1 : gameroomref_regionOf_L2 W H c m (ins, ch, (i : Int)) = gameroomref_regionOf_J3 W H c m ins ch i := by
      simp only [gameroomref_regionOf_L2]
      rw [Int.toNat_natCast, if_pos (decide_eq_true (by omega))]
    rw [e1]
    unfold gameroomref_regionOf_J3 gameroomref_regionOf_J4
    rw [Int.toNat_natCast, asrt_pos (by omega), w64_of (x := (i : Int) + 1) (by omega)]
    by_cases q : getb ins (i : Int) = true
    · obtain ⟨s', k1, k2, k3⟩ := pass_in B hm hi h1 h2 q
      rw [if_neg (by simp [q])]
      unfold gameroomref_regionOf_J5
      rw [k1, Option.bind_some]
      refine ⟨s', ?_, k2, k3⟩
      simp only [gameroomref_regionOf_K3, gameroomref_regionOf_J4]
      rw [w64_of (x := (i : Int) + 1) (by omega)]
      rfl
    · rw [if_pos (by simpa using q)]
      refine ⟨(ins, ch), rfl, h1, h2.1, h2.2.1, fun h => ?_⟩
      obtain ⟨g1, g2⟩ := h2.2.2 h
      refine ⟨g1, fun a' b' hd ha' hb' hv' had' => ?_⟩
      by_cases e : a' = i
      · subst e
        simp only at g1
        rw [← g1] at ha'
        exact absurd ha' q
      · exact g2 a' b' (by omega) ha' hb' hv' had') (by
    rintro s ⟨h1, h2⟩
    refine ⟨s, ?_, h1, h2⟩
    simp only [gameroomref_regionOf_L2]
    rw [Int.toNat_natCast, if_neg (by simp)])
  obtain ⟨r, hr, h⟩ := key
  exact ⟨r, hr, h⟩

theorem region_r (B : Dm W H c) (hp : p < c.length) {m : List Bool} (hm : m.length = c.length ∧ ∀ b : Nat, b < c.length → (getb m b = true ↔ geti c b = v)) :
    ∃ r, gameroomref_regionOf_m W H c p m = some r ∧ r.length = c.length ∧ ∀ b : Nat, b < c.length → (getb r b = true ↔ Rch W c v p b) := by
  have hsm := B.small
  unfold gameroomref_regionOf_m
  rw [Int.toNat_natCast, Int.toNat_natCast, asrt_pos (by unfold bigN; omega), asrt_pos (by omega)]
  have hf : ∀ b : Nat, b < c.length → getb (List.replicate c.length false) (b : Int) = false := fun b hb => getb_some (by rw [List.getElem?_replicate, if_pos hb])
  have key : ∀ (n : Nat) (s : List Bool), c.length - nT s c.length < n → RInv W c v p s → ∃ r, loop (gameroomref_regionOf_L1 W H c m) (s, true) = some r ∧ r.length = c.length ∧ ∀ b : Nat, b < c.length → (getb r b = true ↔ Rch W c v p b) := by
    intro n
    induction n with
    | zero => intro s h; omega
    | succ n ih =>
      intro s hn hI
      obtain ⟨⟨s', ch⟩, k1, k2, k3, k4, k5⟩ := pass_all B hm hI
      have st : gameroomref_regionOf_L1 W H c m (s, true) = some (.next (s', ch)) := by
        simp only [gameroomref_regionOf_L1, if_true]
        unfold gameroomref_regionOf_J2
        rw [k1]
        rfl
      cases ch with
      | true =>
        have hlt := nT_lt c.length k3 (k4 rfl)
        have hle := nT_le s' c.length
        obtain ⟨r, h1, h2⟩ := ih s' (by simp only at hlt; omega) k2
        exact ⟨r, loop_next' st h1, h2⟩
      | false =>
        obtain ⟨g1, g2⟩ := k5 rfl
        simp only at g1
        subst g1
        refine ⟨s', loop_next' st (loop_done (by simp only [gameroomref_regionOf_L1]; rw [if_neg (by simp)])), k2.len, fun b hb => ⟨k2.sound b hb, fun h => ?_⟩⟩
        have : ∀ b, Rch W c v p b → getb s' (b : Int) = true := by
          intro b h
          induction h with
          | base => exact k2.hp
          | step h1 h2 h3 ih =>
            rename_i a b
            exact g2 a b (rch_lt hp h1) ih h3.1 h3.2 h2
        exact this b h
  obtain ⟨r, h1, h2, h3⟩ := key (c.length + 1) ((List.replicate c.length false).set p true) (by omega) ⟨by simp, (fun b hb hs => by
    rw [getbs (by simpa using hp)] at hs
    by_cases e : b = p
    · subst e; exact .base
    · rw [if_neg e, hf b hb] at hs
      exact absurd hs (by decide)), (by rw [getbs (by simpa using hp), if_pos rfl])⟩
  rw [h1]
  exact ⟨r, rfl, h2, h3⟩

open Classical in
theorem groupOf_r (B : Dm W H c) (hp : p < c.length) (hv : geti c p = v) : gameroomref_GroupOf_m W H c p = some (grpL W c v p, libL W c v p) := by
  have hsm := B.small
  unfold gameroomref_GroupOf_m
  obtain ⟨m, m1, m2⟩ := marks_r B v
  obtain ⟨r, r1, r2, r3⟩ := region_r B hp m2
  rw [asrt_pos (by omega), hv, m1, Option.bind_some, r1, Option.bind_some]
  unfold gameroomref_GroupOf_J1
  have any : ∀ i : Nat, i < c.length → gameroomref_besideAny_m W H c i r = some (decide (∃ a, Rch W c v p a ∧ Adj W a i)) := by
    intro i hi
    unfold gameroomref_besideAny_m
    have key := count_loop (step := gameroomref_besideAny_L1 W H c i r) (fun (_ : Unit) (k : Nat) => (k : Int)) (fun n _ => ∀ a : Nat, a < n → ¬ (Rch W c v p a ∧ Adj W a i)) (fun q => q = if ∃ a, Rch W c v p a ∧ Adj W a i then .ret true else .go ()) c.length () (fun a ha => by omega) (by
      rintro k - hk hI
      have e1 : gameroomref_besideAny_L1 W H c i r (k : Int) = gameroomref_besideAny_J2 W H c i r k := if_pos (decide_eq_true (by omega))
      rw [e1]
      unfold gameroomref_besideAny_J2 gameroomref_besideAny_J3
      rw [asrt_pos (by omega), beside_r B hk hi, w64_of (by omega)]
      by_cases q : Rch W c v p k ∧ Adj W k i
      · right
        rw [(r3 k hk).2 q.1, decide_eq_true q.2]
        exact ⟨_, rfl, by rw [if_pos ⟨k, q⟩]⟩
      · left
        refine ⟨(), ?_, fun a ha => ?_⟩
        · by_cases q1 : getb r (k : Int) = true
          · rw [q1, decide_eq_false (fun h => q ⟨(r3 k hk).1 q1, h⟩)]; rfl
          · have : getb r (k : Int) = false := by simpa using q1
            rw [this]; rfl
        · by_cases e : a = k
          · subst e; exact q
          · exact hI a (by omega)) (by
      rintro - hI
      refine ⟨.go (), ?_, ?_⟩
      · simp only [gameroomref_besideAny_L1]
        rw [if_neg (by simp; omega)]
      · rw [if_neg]
        rintro ⟨a, h1, h2⟩
        exact hI a (rch_lt hp h1) ⟨h1, h2⟩)
    obtain ⟨q, hq, rfl⟩ := key
    have hq' : loop (gameroomref_besideAny_L1 W H c i r) 0 = _ := hq
    rw [hq', Option.bind_some]
    by_cases h : ∃ a, Rch W c v p a ∧ Adj W a i
    · rw [if_pos h, decide_eq_true h]; rfl
    · rw [if_neg h, decide_eq_false h]; rfl
  have key := count_loop (step := gameroomref_GroupOf_L1 W H c r) (fun (s : List Int) (i : Nat) => (s, (i : Int))) (fun n s => s = ((List.range n).filter (fun b => decide (Lib W c v p b))).map (fun (b : Nat) => (b : Int)) ∧ s.length ≤ n) (fun q => q = libL W c v p) c.length [] ⟨rfl, by simp⟩ (by
    rintro i s hi ⟨hs, hl⟩
    left
    have e1 : gameroomref_GroupOf_L1 W H c r (s, (i : Int)) = gameroomref_GroupOf_J3 W H c r s i := if_pos (decide_eq_true (by omega))
    rw [e1]
    unfold gameroomref_GroupOf_J3 gameroomref_GroupOf_J4
    rw [asrt_pos (by omega), any i hi, w64_of (by omega), List.range_succ, List.filter_append, List.map_append, ← hs]
    by_cases q : Lib W c v p i
    · rw [show (geti c (i : Int) == 0) = true from beq_iff_eq.2 q.1, decide_eq_true q.2]
      rw [if_pos rfl, Option.bind_some, Bool.and_self, if_pos rfl, asrt_pos (by unfold bigN; omega)]
      refine ⟨_, rfl, ?_, by rw [List.length_append]; simp; omega⟩
      simp [q]
    · refine ⟨s, ?_, by simp [q], by omega⟩
      by_cases q1 : geti c (i : Int) = 0
      · rw [show (geti c (i : Int) == 0) = true from beq_iff_eq.2 q1, decide_eq_false (fun h => q ⟨q1, h⟩)]; rfl
      · rw [show (geti c (i : Int) == 0) = false by simpa using q1]; rfl) (by
    rintro s ⟨rfl, hl⟩
    refine ⟨_, ?_, rfl⟩
    simp only [gameroomref_GroupOf_L1]
    rw [if_neg (by simp; omega)]; rfl)
  obtain ⟨q, hq, rfl⟩ := key
  have hq' : loop (gameroomref_GroupOf_L1 W H c r) ([], 0) = _ := hq
  rw [hq', Option.bind_some]
  simp only [gameroomref_GroupOf_K1, gameroomref_GroupOf_J2]
  unfold gameroomref_listOf_m
  have key := count_loop (step := gameroomref_listOf_L1 r) (fun (s : List Int) (i : Nat) => (s, (i : Int))) (fun n s => s = ((List.range n).filter (fun b => decide (Rch W c v p b))).map (fun (b : Nat) => (b : Int)) ∧ s.length ≤ n) (fun q => q = grpL W c v p) c.length [] ⟨rfl, by simp⟩ (by
    rintro i s hi ⟨hs, hl⟩
    left
    have e1 : gameroomref_listOf_L1 r (s, (i : Int)) = gameroomref_listOf_J2 r s i := if_pos (decide_eq_true (by omega))
    rw [e1]
    unfold gameroomref_listOf_J2 gameroomref_listOf_J3
    rw [asrt_pos (by omega), w64_of (by omega), List.range_succ, List.filter_append, List.map_append, ← hs]
    by_cases q : Rch W c v p i
    · rw [if_pos ((r3 i hi).2 q), asrt_pos (by unfold bigN; omega)]
      refine ⟨_, rfl, ?_, by rw [List.length_append]; simp; omega⟩
      simp [q]
    · rw [if_neg (fun h => q ((r3 i hi).1 h))]
      exact ⟨s, rfl, by simp [q], by omega⟩) (by
    rintro s ⟨rfl, hl⟩
    refine ⟨_, ?_, rfl⟩
    simp only [gameroomref_listOf_L1]
    rw [if_neg (by simp; omega)]; rfl)
  obtain ⟨q, hq, rfl⟩ := key
  have hq' : loop (gameroomref_listOf_L1 r) ([], 0) = _ := hq
  rw [hq']
  rfl
end
end Go.Proofs.Ytjfloofoobllaaa
