/-
  StonesAreas: the reference's stones that stand for ever.
-/
import Derived.Test.YtdjjomghggplpaaKF
namespace Go.Proofs.Ytdjjomghggplpaa
open Go Go.GL

section
variable {W H : Int} {c : List Int} {v : Int}

def OutS (c : List Int) (o : List Bool) (b : Nat) : Prop := b < c.length ∧ getb o b = true

structure OwnM (c : List Int) (so : Int → Bool) (m : List Bool) : Prop where
  len : m.length = c.length
  mem : ∀ b : Nat, b < c.length → (getb m b = true ↔ so (geti c b) = true)

theorem j14 (B : Dm W H c) {own out : List Bool} (ho : OwnM c (so2 v) own) (hou : out.length = c.length) {k : Nat} (hk : Mk c (so3 v) k) {r4 : List Bool} (r2 : r4.length = c.length) (r3 : ∀ b : Nat, b < c.length → (getb r4 b = true ↔ Rch W c (so3 v) k b)) {p : Nat} (hp : p < c.length) (cn : List Bool) (ok sm : Bool) :
    ∃ ok' : Bool, gameroomref_AliveOf_J14 W H c own out r4 p cn ok sm = some (.next (cn, ok', sm, (p : Int) + 1)) ∧ (ok' = true ↔ ok = true ∧ ¬ (Mk c (so2 v) p ∧ OutS c out p ∧ ∃ a, Rch W c (so3 v) k a ∧ Adj W a p)) := by
  classical
  have hsm := B.small
  have hl := ho.len
  have hm := ho.mem p hp
  unfold gameroomref_AliveOf_J14 gameroomref_AliveOf_J13
  rw [Int.toNat_natCast, asrt_pos (by omega), asrt_pos (fun _ => by omega), any_r B r2 r3 hp, w64_of (by omega)]
  by_cases q1 : getb own p = true
  · by_cases q2 : getb out p = true
    · by_cases q3 : ∃ a : Nat, a < c.length ∧ Rch W c (so3 v) k a ∧ Adj W a p
      · rw [q1, q2, decide_eq_true q3]
        refine ⟨false, rfl, ?_⟩
        obtain ⟨a, _, h⟩ := q3
        constructor
        · intro e; cases e
        · intro h'
          exact absurd (⟨⟨hp, hm.1 q1⟩, ⟨hp, q2⟩, a, h⟩ : Mk c (so2 v) p ∧ OutS c out p ∧ ∃ a, Rch W c (so3 v) k a ∧ Adj W a p) h'.2
      · rw [q1, q2, decide_eq_false q3]
        refine ⟨ok, rfl, ⟨fun h => ⟨h, ?_⟩, fun h => h.1⟩⟩
        rintro ⟨_, _, a, h1, h2⟩
        exact q3 ⟨a, (rch_mk hk h1).1, h1, h2⟩
    · have q2' : getb out p = false := by simpa using q2
      rw [q1, q2']
      refine ⟨ok, rfl, ⟨fun h => ⟨h, fun h' => q2 h'.2.1.2⟩, fun h => h.1⟩⟩
  · have q1' : getb own p = false := by simpa using q1
    rw [q1']
    exact ⟨ok, rfl, ⟨fun h => ⟨h, fun h' => q1 (hm.2 h'.1.2)⟩, fun h => h.1⟩⟩

theorem inner_r (B : Dm W H c) {own out : List Bool} (ho : OwnM c (so2 v) own) (hou : out.length = c.length) {i k : Nat} (hi : Mk c (so2 v) i) (hk : Mk c (so3 v) k) {r3 r4 : List Bool} (a2 : r3.length = c.length) (a3 : ∀ b : Nat, b < c.length → (getb r3 b = true ↔ Rch W c (so2 v) i b)) (b2 : r4.length = c.length) (b3 : ∀ b : Nat, b < c.length → (getb r4 b = true ↔ Rch W c (so3 v) k b)) {cn : List Bool} (hcn : cn.length = c.length) :
    ∃ (cn' : List Bool) (ok sm : Bool), loop (gameroomref_AliveOf_L4 W H c own out r3 r4) (cn, true, false, 0) = some (cn', ok, sm) ∧ cn'.length = c.length ∧ (∀ b : Nat, b < c.length → (getb cn' b = true ↔ getb cn b = true ∨ Rch W c (so3 v) k b)) ∧ ((ok && sm) = true ↔ Vit0 W c v i k ∧ ¬ Tch W c v (OutS c out) k) := by
  classical
  have hsm := B.small
  have key := count_loop (step := gameroomref_AliveOf_L4 W H c own out r3 r4) (fun (s : List Bool × Bool × Bool) (p : Nat) => (s.1, s.2.1, s.2.2, (p : Int)))
    (fun n s => s.1.length = c.length ∧ (∀ b : Nat, b < c.length → (getb s.1 b = true ↔ getb cn b = true ∨ (b < n ∧ Rch W c (so3 v) k b))) ∧ (s.2.2 = true ↔ ∃ p : Nat, p < n ∧ Rch W c (so3 v) k p ∧ geti c p = 0)
      ∧ (s.2.1 = true ↔ (∀ p : Nat, p < n → Rch W c (so3 v) k p → geti c p = 0 → ∃ a, Rch W c (so2 v) i a ∧ Adj W a p) ∧ ∀ p : Nat, p < n → ¬ (Mk c (so2 v) p ∧ OutS c out p ∧ ∃ a, Rch W c (so3 v) k a ∧ Adj W a p)))
    (fun s => s.1.length = c.length ∧ (∀ b : Nat, b < c.length → (getb s.1 b = true ↔ getb cn b = true ∨ Rch W c (so3 v) k b)) ∧ ((s.2.1 && s.2.2) = true ↔ Vit0 W c v i k ∧ ¬ Tch W c v (OutS c out) k)) c.length (cn, true, false) ⟨hcn, fun b _ => by
      simp, by simp, by simp⟩ (by
    rintro p ⟨cs, ok, sm⟩ hp ⟨h1, h2, h3, h4⟩
    left
    simp only at h1 h2 h3 h4 ⊢
    have e1 : gameroomref_AliveOf_L4 W H c own out r3 r4 (cs, ok, sm, (p : Int)) = gameroomref_AliveOf_J12 W H c own out r3 r4 cs ok sm p := if_pos (decide_eq_true (by omega))
    rw [e1]
    unfold gameroomref_AliveOf_J12
    rw [asrt_pos (by omega)]
    have sp : ∀ (P : Nat → Prop), (∃ d : Nat, d < p + 1 ∧ P d) ↔ (∃ d : Nat, d < p ∧ P d) ∨ P p := by
      intro P
      constructor
      · rintro ⟨d, hd, h⟩
        by_cases e : d = p
        · subst e; exact Or.inr h
        · exact Or.inl ⟨d, by omega, h⟩
      · rintro (⟨d, hd, h⟩ | h)
        · exact ⟨d, by omega, h⟩
        · exact ⟨p, by omega, h⟩
    have sa : ∀ (P : Nat → Prop), (∀ d : Nat, d < p + 1 → P d) ↔ (∀ d : Nat, d < p → P d) ∧ P p := by
      intro P
      constructor
      · intro h
        exact ⟨fun d hd => h d (by omega), h p (by omega)⟩
      · rintro ⟨h, h'⟩ d hd
        by_cases e : d = p
        · subst e; exact h'
        · exact h d (by omega)
    rw [sp, sa, sa, ← h3]
    by_cases q : getb r4 p = true
    · have hr := (b3 p hp).1 q
      rw [if_pos q, Int.toNat_natCast, asrt_pos (by omega), asrt_pos (fun _ => by omega), asrt_pos (fun _ => by omega), any_r B a2 a3 hp, Int.toNat_natCast]
      have hcm : ∀ b : Nat, b < c.length → (getb (cs.set p true) b = true ↔ getb cn b = true ∨ (b < p + 1 ∧ Rch W c (so3 v) k b)) := by
        intro b hb
        rw [getbs (by omega)]
        by_cases e : b = p
        · subst e
          rw [if_pos rfl]
          exact ⟨fun _ => Or.inr ⟨by omega, hr⟩, fun _ => rfl⟩
        · rw [if_neg e, h2 b hb]
          exact ⟨fun h => h.imp id (fun h => ⟨by omega, h.2⟩), fun h => h.imp id (fun h => ⟨by omega, h.2⟩)⟩
      have fin : ∀ (ok1 sm1 : Bool), (ok1 = true ↔ ok = true ∧ (geti c p = 0 → ∃ a, Rch W c (so2 v) i a ∧ Adj W a p)) → (sm1 = true ↔ sm = true ∨ geti c p = 0) →
          ∃ s' : List Bool × Bool × Bool, gameroomref_AliveOf_J14 W H c own out r4 p (cs.set p true) ok1 sm1 = some (.next (s'.1, s'.2.1, s'.2.2, ((p + 1 : Nat) : Int))) ∧ s'.1.length = c.length ∧ (∀ b : Nat, b < c.length → (getb s'.1 b = true ↔ getb cn b = true ∨ (b < p + 1 ∧ Rch W c (so3 v) k b))) ∧ (s'.2.2 = true ↔ sm = true ∨ Rch W c (so3 v) k p ∧ geti c p = 0)
            ∧ (s'.2.1 = true ↔ ((∀ d : Nat, d < p → Rch W c (so3 v) k d → geti c d = 0 → ∃ a, Rch W c (so2 v) i a ∧ Adj W a d) ∧ (Rch W c (so3 v) k p → geti c p = 0 → ∃ a, Rch W c (so2 v) i a ∧ Adj W a p)) ∧ (∀ d : Nat, d < p → ¬ (Mk c (so2 v) d ∧ OutS c out d ∧ ∃ a, Rch W c (so3 v) k a ∧ Adj W a d)) ∧ ¬ (Mk c (so2 v) p ∧ OutS c out p ∧ ∃ a, Rch W c (so3 v) k a ∧ Adj W a p)) := by
        intro ok1 sm1 f1 f2
        obtain ⟨ok', g1, g2⟩ := j14 B ho hou hk b2 b3 hp (cs.set p true) ok1 sm1
        refine ⟨(cs.set p true, ok', sm1), g1, by rw [List.length_set]; exact h1, hcm, ?_, ?_⟩
        · simp only; rw [f2]
          exact ⟨fun h => h.imp id (fun h => ⟨hr, h⟩), fun h => h.imp id (fun h => h.2)⟩
        · simp only; rw [g2, f1, h4]
          exact ⟨fun ⟨⟨⟨u1, u2⟩, u3⟩, u4⟩ => ⟨⟨u1, fun _ => u3⟩, u2, u4⟩, fun ⟨⟨u1, u3⟩, u2, u4⟩ => ⟨⟨⟨u1, u2⟩, u3 hr⟩, u4⟩⟩
      have an : (∃ a : Nat, a < c.length ∧ Rch W c (so2 v) i a ∧ Adj W a p) ↔ ∃ a, Rch W c (so2 v) i a ∧ Adj W a p := ⟨fun ⟨a, _, h⟩ => ⟨a, h⟩, fun ⟨a, h1, h2⟩ => ⟨a, (rch_mk hi h1).1, h1, h2⟩⟩
      by_cases z : geti c p = 0
      · have z1 : (geti c (p : Int) != 0) = false := by rw [z]; rfl
        have z2 : (geti c (p : Int) == 0) = true := by rw [z]; rfl
        rw [z1, z2]
        cases ok
        · obtain ⟨s', f⟩ := fin false true (by simp) (by simp [z])
          refine ⟨s', ?_, f.2⟩
          simp only [Bool.not_false, Bool.and_false, Bool.false_eq_true, if_false, Option.bind_some, Bool.false_and, Bool.or_true]
          exact f.1
        · by_cases y : ∃ a : Nat, a < c.length ∧ Rch W c (so2 v) i a ∧ Adj W a p
          · obtain ⟨s', f⟩ := fin true true (by simp only [true_iff, true_and]; exact fun _ => an.1 y) (by simp [z])
            refine ⟨s', ?_, f.2⟩
            rw [decide_eq_true y]
            simp only [Bool.not_false, Bool.and_true, if_true, Option.bind_some, Bool.true_and, Bool.or_true]
            exact f.1
          · obtain ⟨s', f⟩ := fin false true (by
              constructor
              · intro h; cases h
              · intro h; exact absurd (an.2 (h.2 z)) y) (by simp [z])
            refine ⟨s', ?_, f.2⟩
            rw [decide_eq_false y]
            simp only [Bool.not_false, Bool.and_true, if_true, Option.bind_some, Bool.true_and, Bool.or_false, Bool.or_true]
            exact f.1
      · have z1 : (geti c (p : Int) != 0) = true := by simpa using z
        have z2 : (geti c (p : Int) == 0) = false := by simpa using z
        rw [z1, z2]
        obtain ⟨s', f⟩ := fin ok sm (by
          constructor
          · exact fun h => ⟨h, fun h' => absurd h' z⟩
          · exact fun h => h.1) (by
          constructor
          · exact Or.inl
          · exact fun h => h.elim id (fun h => absurd h z))
        refine ⟨s', ?_, f.2⟩
        simp only [Bool.not_true, Bool.false_and, Bool.false_eq_true, if_false, Option.bind_some, Bool.true_or, Bool.and_true, Bool.or_false]
        exact f.1
    · have hr : ¬ Rch W c (so3 v) k p := fun h => q ((b3 p hp).2 h)
      rw [if_neg q]
      obtain ⟨ok', g1, g2⟩ := j14 B ho hou hk b2 b3 hp cs ok sm
      refine ⟨(cs, ok', sm), g1, h1, fun b hb => ?_, ?_, ?_⟩
      · rw [h2 b hb]
        refine ⟨fun h => h.imp id (fun h => ⟨by omega, h.2⟩), fun h => h.imp id (fun h => ⟨?_, h.2⟩)⟩
        by_cases e : b = p
        · subst e; exact absurd h.2 hr
        · omega
      · simp only
        exact ⟨Or.inl, fun h => h.elim id (fun h => absurd h.1 hr)⟩
      · simp only; rw [g2, h4]
        exact ⟨fun ⟨⟨u1, u2⟩, u4⟩ => ⟨⟨u1, fun h => absurd h hr⟩, u2, u4⟩, fun ⟨⟨u1, _⟩, u2, u4⟩ => ⟨⟨u1, u2⟩, u4⟩⟩) (by
    rintro ⟨cs, ok, sm⟩ ⟨h1, h2, h3, h4⟩
    refine ⟨(cs, ok, sm), ?_, h1, fun b hb => ?_, ?_⟩
    · simp only [gameroomref_AliveOf_L4]
      rw [if_neg (by simp)]
    · rw [h2 b hb]
      exact ⟨fun h => h.imp id (fun h => h.2), fun h => h.imp id (fun h => ⟨hb, h⟩)⟩
    · simp only at h3 h4 ⊢
      rw [Bool.and_eq_true, h3, h4]
      constructor
      · rintro ⟨⟨u1, u2⟩, p, _, u3, u4⟩
        refine ⟨⟨⟨p, u3, u4⟩, fun p hr hz => u1 p (rch_mk hk hr).1 hr hz⟩, ?_⟩
        rintro ⟨s, t1, t2, t3⟩
        exact u2 s t1.1 ⟨t1, t2, t3⟩
      · rintro ⟨⟨⟨p, u3, u4⟩, u1⟩, u2⟩
        exact ⟨⟨fun p _ hr hz => u1 p hr hz, fun s _ ⟨t1, t2, t3⟩ => u2 ⟨s, t1, t2, t3⟩⟩, p, (rch_mk hk u3).1, u3, u4⟩)
  obtain ⟨⟨cn', ok, sm⟩, hr, h⟩ := key
  exact ⟨cn', ok, sm, hr, h⟩

theorem good_r (B : Dm W H c) {own rest out : List Bool} (ho : OwnM c (so2 v) own) (hre : OwnM c (so3 v) rest) (hou : out.length = c.length) {i : Nat} (hi : Mk c (so2 v) i) {r3 : List Bool} (a2 : r3.length = c.length) (a3 : ∀ b : Nat, b < c.length → (getb r3 b = true ↔ Rch W c (so2 v) i b)) :
    loop (gameroomref_AliveOf_L3 W H c own rest out r3) (0, List.replicate c.length false, 0) = some (nR c.length (Good W c v (OutS c out) i) : Int) := by
  classical
  have hsm := B.small
  have key := count_loop (step := gameroomref_AliveOf_L3 W H c own rest out r3) (fun (s : Nat × List Bool) (k : Nat) => ((s.1 : Int), s.2, (k : Int)))
    (fun n s => s.1 = nR n (Good W c v (OutS c out) i) ∧ s.2.length = c.length ∧ ∀ b : Nat, b < c.length → (getb s.2 b = true ↔ Met W c (so3 v) n b)) (fun r => r = (nR c.length (Good W c v (OutS c out) i) : Int)) c.length (0, List.replicate c.length false) ⟨rfl, by simp, fun b hb => by
      rw [getb_some (by rw [List.getElem?_replicate, if_pos hb])]
      constructor
      · intro h; cases h
      · rintro ⟨j, h, _⟩; omega⟩ (by
    rintro k ⟨g, cn⟩ hk ⟨h1, h2, h3⟩
    left
    simp only at h1 h2 h3 ⊢
    have hrl := hre.len
    have hrm := hre.mem k hk
    have hle := nR_le k (Good W c v (OutS c out) i)
    have e1 : gameroomref_AliveOf_L3 W H c own rest out r3 ((g : Int), cn, (k : Int)) = gameroomref_AliveOf_J8 W H c own rest out r3 g cn k := if_pos (decide_eq_true (by omega))
    rw [e1]
    unfold gameroomref_AliveOf_J8 gameroomref_AliveOf_J9
    rw [Int.toNat_natCast, asrt_pos (by omega), asrt_pos (fun _ => by omega), w64_of (x := (k : Int) + 1) (by omega), nR_succ]
    by_cases q : ((!getb rest k) || getb cn k) = true
    · rw [if_pos q]
      have hF : ¬ Fst W c (so3 v) k := fun h => by
        have h5 := fst_iff.1 h
        have h7 : ¬ getb cn k = true := fun q => h5.2 ((h3 k hk).1 q)
        rw [hrm.2 h.1.2] at q
        exact h7 (by simpa using q)
      refine ⟨(g, cn), rfl, ?_, h2, fun b hb => ?_⟩
      · rw [if_neg (fun h => hF h.1)]; exact h1
      · rw [h3 b hb, met_succ]
        exact ⟨Or.inl, fun h => h.elim id (fun h => absurd h.1 hF)⟩
    · rw [if_neg q]
      have hM : Mk c (so3 v) k := ⟨hk, hrm.1 (by
        cases h : getb rest k
        · rw [h] at q; exact absurd rfl q
        · rfl)⟩
      have hF : Fst W c (so3 v) k := fst_iff.2 ⟨hM, fun h => q (by rw [(h3 k hk).2 h]; simp)⟩
      unfold gameroomref_AliveOf_J10
      obtain ⟨r4, b1, b2, b3⟩ := region_r B hk ⟨hre.len, hre.mem⟩
      obtain ⟨cn', ok, sm, l1, l2, l3, l4⟩ := inner_r B ho hou hi hM a2 a3 b2 b3 h2
      rw [b1, Option.bind_some, l1, Option.bind_some]
      simp only [gameroomref_AliveOf_K4]
      unfold gameroomref_AliveOf_J11 gameroomref_AliveOf_J9
      rw [w64_of (x := (k : Int) + 1) (by omega), w64_of (x := (g : Int) + 1) (by omega)]
      have hc : ∀ b : Nat, b < c.length → (getb cn' b = true ↔ Met W c (so3 v) (k + 1) b) := by
        intro b hb
        rw [l3 b hb, h3 b hb, met_succ]
        exact ⟨fun h => h.imp id (fun h => ⟨hF, h⟩), fun h => h.imp id (fun h => h.2)⟩
      by_cases z : (ok && sm) = true
      · rw [if_pos z]
        have hz := l4.1 z
        exact ⟨(g + 1, cn'), rfl, by rw [if_pos ⟨hF, hz⟩]; simp only; omega, l2, hc⟩
      · rw [if_neg z]
        exact ⟨(g, cn'), rfl, by rw [if_neg (fun h => z (l4.2 h.2))]; exact h1, l2, hc⟩) (by
    rintro ⟨g, cn⟩ ⟨h1, h2, h3⟩
    refine ⟨_, ?_, rfl⟩
    simp only [gameroomref_AliveOf_L3]
    simp only at h1
    rw [if_neg (by simp), h1])
  obtain ⟨r, hr, rfl⟩ := key
  exact hr

theorem region_all (B : Dm W H c) {so : Int → Bool} {m : List Bool} (hm : OwnM c so m) {i : Nat} (hi : i < c.length) : ∃ r, gameroomref_regionOf_m W H c i m = some r ∧ r.length = c.length ∧ ∀ b : Nat, b < c.length → (getb r b = true ↔ Rch W c so i b) := region_r B hi ⟨hm.len, hm.mem⟩

theorem out_r (B : Dm W H c) {r3 out : List Bool} (a2 : r3.length = c.length) (hou : out.length = c.length) : ∃ o, loop (gameroomref_AliveOf_L5 c r3) (out, 0) = some o ∧ o.length = c.length ∧ ∀ b : Nat, b < c.length → (getb o b = true ↔ getb out b = true ∨ getb r3 b = true) := by
  have hsm := B.small
  have key := count_loop (step := gameroomref_AliveOf_L5 c r3) (fun (s : List Bool) (p : Nat) => (s, (p : Int)))
    (fun n s => s.length = c.length ∧ ∀ b : Nat, b < c.length → (getb s b = true ↔ getb out b = true ∨ (b < n ∧ getb r3 b = true))) (fun s => s.length = c.length ∧ ∀ b : Nat, b < c.length → (getb s b = true ↔ getb out b = true ∨ getb r3 b = true)) c.length out ⟨hou, fun b _ => by simp⟩ (by
    rintro p s hp ⟨h1, h2⟩
    left
    have e1 : gameroomref_AliveOf_L5 c r3 (s, (p : Int)) = gameroomref_AliveOf_J16 c r3 s p := if_pos (decide_eq_true (by omega))
    rw [e1]
    unfold gameroomref_AliveOf_J16 gameroomref_AliveOf_J17
    rw [Int.toNat_natCast, asrt_pos (by omega), asrt_pos (by omega), w64_of (by omega), Int.toNat_natCast]
    by_cases q : getb r3 p = true
    · rw [if_pos q]
      refine ⟨_, rfl, by rw [List.length_set]; exact h1, fun b hb => ?_⟩
      rw [getbs (by omega)]
      by_cases e : b = p
      · subst e; rw [if_pos rfl]; exact ⟨fun _ => Or.inr ⟨by omega, q⟩, fun _ => rfl⟩
      · rw [if_neg e, h2 b hb]
        exact ⟨fun h => h.imp id (fun h => ⟨by omega, h.2⟩), fun h => h.imp id (fun h => ⟨by omega, h.2⟩)⟩
    · rw [if_neg q]
      refine ⟨s, rfl, h1, fun b hb => ?_⟩
      rw [h2 b hb]
      refine ⟨fun h => h.imp id (fun h => ⟨by omega, h.2⟩), fun h => h.imp id (fun h => ⟨?_, h.2⟩)⟩
      by_cases e : b = p
      · subst e; exact absurd h.2 q
      · omega) (by
    rintro s ⟨h1, h2⟩
    refine ⟨s, ?_, h1, fun b hb => ?_⟩
    · simp only [gameroomref_AliveOf_L5]
      rw [if_neg (by simp)]
    · rw [h2 b hb]
      exact ⟨fun h => h.imp id (fun h => h.2), fun h => h.imp id (fun h => ⟨hb, h⟩)⟩)
  obtain ⟨o, hr, h⟩ := key
  exact ⟨o, hr, h⟩

theorem low_congr {X Y : Nat → Prop} (hX : Low W c v X) (h : ∀ b, X b ↔ Y b) : Low W c v Y := by
  have : X = Y := funext fun b => propext (h b)
  rw [← this]; exact hX

theorem pass_r (B : Dm W H c) {own rest out : List Bool} (ho : OwnM c (so2 v) own) (hre : OwnM c (so3 v) rest) (hou : out.length = c.length) (hL : Low W c v (OutS c out)) :
    ∃ (o : List Bool) (ch : Bool), loop (gameroomref_AliveOf_L2 W H c own rest) (out, false, 0) = some (o, ch) ∧ o.length = c.length ∧ Low W c v (OutS c o) ∧ (∀ b, OutS c out b → OutS c o b) ∧ (ch = true → ∃ b, OutS c o b ∧ ¬ OutS c out b) ∧ (ch = false → o = out ∧ Stable W c v (OutS c out)) := by
  classical
  have hsm := B.small
  have key := count_loop (step := gameroomref_AliveOf_L2 W H c own rest) (fun (s : List Bool × Bool) (i : Nat) => (s.1, s.2, (i : Int)))
    (fun n s => s.1.length = c.length ∧ Low W c v (OutS c s.1) ∧ (∀ b, OutS c out b → OutS c s.1 b) ∧ (s.2 = true → ∃ b, OutS c s.1 b ∧ ¬ OutS c out b) ∧ (s.2 = false → s.1 = out ∧ ∀ i : Nat, i < n → Mk c (so2 v) i → ¬ OutS c out i → 2 ≤ nR c.length (Good W c v (OutS c out) i)))
    (fun s => s.1.length = c.length ∧ Low W c v (OutS c s.1) ∧ (∀ b, OutS c out b → OutS c s.1 b) ∧ (s.2 = true → ∃ b, OutS c s.1 b ∧ ¬ OutS c out b) ∧ (s.2 = false → s.1 = out ∧ Stable W c v (OutS c out))) c.length (out, false) ⟨hou, hL, fun _ h => h, fun h => (by cases h), fun _ => ⟨rfl, fun i h => by omega⟩⟩ (by
    rintro i ⟨o, ch⟩ hi ⟨h1, h2, h3, h4, h5⟩
    left
    simp only at h1 h2 h3 h4 h5 ⊢
    have hol := ho.len
    have hom := ho.mem i hi
    have e1 : gameroomref_AliveOf_L2 W H c own rest (o, ch, (i : Int)) = gameroomref_AliveOf_J4 W H c own rest o ch i := if_pos (decide_eq_true (by omega))
    rw [e1]
    unfold gameroomref_AliveOf_J4 gameroomref_AliveOf_J5
    rw [Int.toNat_natCast, asrt_pos (by omega), asrt_pos (fun _ => by omega), w64_of (by omega)]
    by_cases q : ((!getb own i) || getb o i) = true
    · rw [if_pos q]
      refine ⟨(o, ch), rfl, h1, h2, h3, h4, fun hc => ?_⟩
      obtain ⟨g1, g2⟩ := h5 hc
      refine ⟨g1, fun j hj hM hn => ?_⟩
      by_cases e : j = i
      · subst e
        rw [g1] at q
        rw [hom.2 hM.2] at q
        exact absurd ⟨hM.1, by simpa using q⟩ hn
      · exact g2 j (by omega) hM hn
    · rw [if_neg q]
      have hM : Mk c (so2 v) i := ⟨hi, hom.1 (by
        cases h : getb own i
        · rw [h] at q; exact absurd rfl q
        · rfl)⟩
      have hno : ¬ OutS c o i := fun h => q (by rw [h.2]; simp)
      unfold gameroomref_AliveOf_J6
      obtain ⟨r3, a1, a2, a3⟩ := region_all B ho hi
      rw [a1, Option.bind_some, asrt_pos (by unfold bigN; omega), Int.toNat_natCast, good_r B ho hre h1 hM a2 a3, Option.bind_some]
      simp only [gameroomref_AliveOf_K3]
      unfold gameroomref_AliveOf_J7
      by_cases z : nR c.length (Good W c v (OutS c o) i) < 2
      · rw [if_pos (decide_eq_true (by omega))]
        obtain ⟨o', u1, u2, u3⟩ := out_r B a2 h1
        rw [u1, Option.bind_some]
        simp only [gameroomref_AliveOf_K5]
        unfold gameroomref_AliveOf_J15 gameroomref_AliveOf_J5
        rw [w64_of (by omega)]
        have hiff : ∀ b, (OutS c o b ∨ Rch W c (so2 v) i b) ↔ OutS c o' b := by
          intro b
          constructor
          · rintro (h | h)
            · exact ⟨h.1, (u3 b h.1).2 (Or.inl h.2)⟩
            · have hb := (rch_mk hM h).1
              exact ⟨hb, (u3 b hb).2 (Or.inr ((a3 b hb).2 h))⟩
          · rintro ⟨hb, h⟩
            exact ((u3 b hb).1 h).imp (fun h => ⟨hb, h⟩) (fun h => (a3 b hb).1 h)
        refine ⟨(o', true), rfl, u2, low_congr (low_add h2 hM z) hiff, fun b hb => (hiff b).1 (Or.inl (h3 b hb)), fun _ => ⟨i, (hiff i).1 (Or.inr .base), fun h => hno (h3 i h)⟩, fun h => by cases h⟩
      · rw [if_neg (by rw [decide_eq_true_eq]; omega)]
        unfold gameroomref_AliveOf_J5
        rw [w64_of (by omega)]
        refine ⟨(o, ch), rfl, h1, h2, h3, h4, fun hc => ?_⟩
        obtain ⟨g1, g2⟩ := h5 hc
        refine ⟨g1, fun j hj hM' hn => ?_⟩
        by_cases e : j = i
        · subst e
          rw [← g1]; omega
        · exact g2 j (by omega) hM' hn) (by
    rintro ⟨o, ch⟩ ⟨h1, h2, h3, h4, h5⟩
    refine ⟨(o, ch), ?_, h1, h2, h3, h4, fun hc => ?_⟩
    · simp only [gameroomref_AliveOf_L2]
      rw [if_neg (by simp)]
    · obtain ⟨g1, g2⟩ := h5 hc
      exact ⟨g1, hL.own, hL.clo, fun i hM hn => g2 i hM.1 hM hn⟩)
  obtain ⟨⟨o, ch⟩, hr, h⟩ := key
  exact ⟨o, ch, hr, h⟩

theorem tell_r (B : Dm W H c) {own out : List Bool} (ho : OwnM c (so2 v) own) (hou : out.length = c.length) : gameroomref_AliveOf_J2 c own out = some (aliveL c v (OutS c out)) := by
  classical
  have hsm := B.small
  unfold gameroomref_AliveOf_J2
  have key := count_loop (step := gameroomref_AliveOf_L6 c own out) (fun (s : List Int) (i : Nat) => (s, (i : Int))) (fun n s => s = ((List.range n).filter (fun b => decide (Mk c (so2 v) b ∧ ¬ OutS c out b))).map (fun (b : Nat) => (b : Int)) ∧ s.length ≤ n) (fun r => r = aliveL c v (OutS c out)) c.length [] ⟨rfl, by simp⟩ (by
    rintro i s hi ⟨hs, hl⟩
    left
    have hol := ho.len
    have hom := ho.mem i hi
    have e1 : gameroomref_AliveOf_L6 c own out (s, (i : Int)) = gameroomref_AliveOf_J19 c own out s i := if_pos (decide_eq_true (by omega))
    rw [e1]
    unfold gameroomref_AliveOf_J19 gameroomref_AliveOf_J20
    rw [Int.toNat_natCast, asrt_pos (by omega), asrt_pos (fun _ => by omega), w64_of (by omega), List.range_succ, List.filter_append, List.map_append, ← hs]
    by_cases q : (getb own i && !getb out i) = true
    · rw [if_pos q, asrt_pos (by unfold bigN; omega)]
      rw [Bool.and_eq_true, Bool.not_eq_true'] at q
      have hq : Mk c (so2 v) i ∧ ¬ OutS c out i := ⟨⟨hi, hom.1 q.1⟩, fun h => by rw [h.2] at q; exact absurd q.2 (by decide)⟩
      exact ⟨_, rfl, by simp [hq], by rw [List.length_append]; simp; omega⟩
    · rw [if_neg q]
      have hq : ¬ (Mk c (so2 v) i ∧ ¬ OutS c out i) := fun h => q (by
        rw [hom.2 h.1.2]
        have : getb out i = false := by
          rw [Bool.eq_false_iff]; exact fun h' => h.2 ⟨hi, h'⟩
        rw [this]; rfl)
      exact ⟨s, rfl, by rw [List.filter_cons_of_neg (by simpa using hq)]; simp, by omega⟩) (by
    rintro s ⟨rfl, hl⟩
    refine ⟨_, ?_, rfl⟩
    simp only [gameroomref_AliveOf_L6]
    rw [if_neg (by simp)]; rfl)
  obtain ⟨r, hr, rfl⟩ := key
  have hr' : loop (gameroomref_AliveOf_L6 c own out) ([], 0) = _ := hr
  rw [hr']
  rfl

theorem aliveOf_loop (B : Dm W H c) {own rest : List Bool} (ho : OwnM c (so2 v) own) (hre : OwnM c (so3 v) rest) : ∀ (n : Nat) (out : List Bool), out.length = c.length → Low W c v (OutS c out) → c.length - nR c.length (OutS c out) < n → ∃ o, loop (gameroomref_AliveOf_L1 W H c own rest) (out, true) = some o ∧ o.length = c.length ∧ Low W c v (OutS c o) ∧ Stable W c v (OutS c o) := by
  intro n
  induction n with
  | zero => intro out _ _ h; omega
  | succ n ih =>
    intro out hl hL hn
    obtain ⟨o, ch, k1, k2, k3, k4, k5, k6⟩ := pass_r B ho hre hl hL
    have st : gameroomref_AliveOf_L1 W H c own rest (out, true) = some (.next (o, ch)) := by
      simp only [gameroomref_AliveOf_L1, if_true]
      unfold gameroomref_AliveOf_J3
      rw [k1]
      rfl
    cases ch with
    | true =>
      obtain ⟨b, b1, b2⟩ := k5 rfl
      have hlt : nR c.length (OutS c out) < nR c.length (OutS c o) := nR_lt c.length (fun x _ h => k4 x h) b1.1 b1 b2
      have hle := nR_le c.length (OutS c o)
      obtain ⟨r, h1, h2⟩ := ih o k2 k3 (by omega)
      exact ⟨r, loop_next' st h1, h2⟩
    | false =>
      obtain ⟨g1, g2⟩ := k6 rfl
      subst g1
      exact ⟨o, loop_next' st (loop_done (by simp only [gameroomref_AliveOf_L1]; rw [if_neg (by simp)])), k2, k3, g2⟩

theorem alive_r (B : Dm W H c) : ∃ Y, Low W c v Y ∧ Stable W c v Y ∧ gameroomref_AliveOf_m W H c v = some (aliveL c v Y) := by
  have hsm := B.small
  unfold gameroomref_AliveOf_m
  obtain ⟨m, m1, m2, m3⟩ := marks_r B v false
  obtain ⟨t, t1, t2, t3⟩ := marks_r B v true
  have ho : OwnM c (so2 v) m := ⟨m2, fun b hb => by rw [m3 b hb]; unfold so2; cases (geti c b == v) <;> simp⟩
  have hre : OwnM c (so3 v) t := ⟨t2, fun b hb => by rw [t3 b hb]; unfold so3 bne; cases (geti c b == v) <;> simp⟩
  have z : ∀ b, ¬ OutS c (List.replicate c.length false) b := by
    rintro b ⟨hb, h⟩
    rw [getb_some (by rw [List.getElem?_replicate, if_pos hb])] at h
    cases h
  obtain ⟨o, o1, o2, o3, o4⟩ := aliveOf_loop B ho hre (c.length + 1) (List.replicate c.length false) (by simp) (low_congr low_none (fun b => ⟨fun h => h.elim, fun h => z b h⟩)) (by omega)
  refine ⟨OutS c o, o3, o4, ?_⟩
  rw [m1, Option.bind_some, t1, Option.bind_some]
  unfold gameroomref_AliveOf_J1
  rw [asrt_pos (by unfold bigN; omega), Int.toNat_natCast, o1, Option.bind_some]
  simp only [gameroomref_AliveOf_K1]
  exact tell_r B ho o2
end
end Go.Proofs.Ytdjjomghggplpaa
