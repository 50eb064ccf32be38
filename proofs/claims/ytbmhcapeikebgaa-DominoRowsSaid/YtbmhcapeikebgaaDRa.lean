/-
  DominoRows: the walk along the pieces (Hierholzer), and what it reaches.
-/
import Derived.Test.YtbmhcapeikebgaaNDR
import Derived.Test.YtbmhcapeikebgaaLibX
import Derived.Test.YtbmhcapeikebgaaLibY
import Derived.Test.YtbmhcapeikebgaaLibT
import Derived.Test.YtbmhcapeikebgaaVA
namespace Go.Proofs.Ytbmhcapeikebgaa
open Go Go.GL

theorem getb_st {l : List Bool} {i p : Nat} {v : Bool} (hi : i < l.length) : getb (l.set i v) (p : Int) = if p = i then v else getb l (p : Int) := by
  unfold getb
  rw [Int.toNat_natCast, List.getD_eq_getElem?_getD, List.getD_eq_getElem?_getD, List.getElem?_set]
  by_cases e : i = p
  · subst e; simp [hi]
  · rw [if_neg e, if_neg (fun h => e h.symm)]

/-- A row of pieces from a to t. -/
def isT : Int → List (Int × Int) → Int → Prop
  | a, [], t => a = t
  | a, e :: r, t => e.1 = a ∧ isT e.2 r t
theorem isT_append : ∀ {x y : List (Int × Int)} {a b c : Int}, isT a x b → isT b y c → isT a (x ++ y) c
  | [], _, _, _, _, h1, h2 => by have h1 : _ = _ := h1; rw [h1]; exact h2
  | _ :: _, _, _, _, _, h1, h2 => ⟨h1.1, isT_append h1.2 h2⟩

def dl (a v : Int) : Int := if a = v then 1 else 0

section
variable (l : List (Int × Int))
abbrev eA (i : Nat) : Int := (getd ((0, 0) : Int × Int) l (i : Int)).1
abbrev eB (i : Nat) : Int := (getd ((0, 0) : Int × Int) l (i : Int)).2
/-- A piece as it lies. -/
def ori (x : Nat × Bool) : Int × Int := if x.2 then (eB l x.1, eA l x.1) else (eA l x.1, eB l x.1)
def cc (v : Int) (i : Nat) : Int := dl (eA l i) v + dl (eB l i) v
/-- How many ends of pieces not used yet are v. -/
def dg (u : List Bool) (v : Int) : Int := sm l.length (fun i => if getb u (i : Int) then 0 else cc l v i)
/-- The odd ones are a and t (or none, a = t). -/
def Par (u : List Bool) (a t : Int) : Prop := ∀ v, (dg l u v + dl a v + dl t v) % 2 = 0

variable {l}
theorem dg_set {u : List Bool} {i : Nat} (hu : u.length = l.length) (hi : i < l.length) (h0 : getb u (i : Int) = false) (v : Int) : dg l u v = dg l (u.set i true) v + cc l v i := by
  unfold dg
  have e : ∀ j, j < l.length → (if getb u (j : Int) then 0 else cc l v j) = (if getb (u.set i true) (j : Int) then 0 else cc l v j) + (if j = i then cc l v j else 0) := fun j hj => by
    rw [getb_st (by omega)]
    by_cases q : j = i
    · subst q; rw [if_pos rfl, if_pos rfl, h0, if_pos rfl]; simp
    · rw [if_neg q, if_neg q]; simp
  rw [sm_congr _ e, sm_add, sm_pick, if_pos hi]

theorem dg_zero {u : List Bool} {a : Int} (h : ∀ i : Nat, i < l.length → getb u (i : Int) = false → eA l i ≠ a ∧ eB l i ≠ a) : dg l u a = 0 := by
  unfold dg
  rw [sm_congr (g := fun _ => 0) _ (fun i hi => ?_), sm_zero]
  cases q : getb u (i : Int) with
  | true => rw [if_pos rfl]
  | false =>
    obtain ⟨h1, h2⟩ := h i hi q
    rw [if_neg (by decide)]
    unfold cc dl
    rw [if_neg h1, if_neg h2]; rfl

/-- What a walk from a does. -/
structure Wk (l : List (Int × Int)) (u u' : List Bool) (a t : Int) (J : List (Nat × Bool)) : Prop where
  len : u'.length = l.length
  mono : ∀ i : Nat, getb u (i : Int) = true → getb u' (i : Int) = true
  trail : isT a (J.map (ori l)).reverse t
  even : ∀ v, dg l u' v % 2 = 0
  nod : (J.map (fun x => x.1)).Nodup
  mem : ∀ i : Nat, i ∈ J.map (fun x => x.1) ↔ i < l.length ∧ getb u' (i : Int) = true ∧ getb u (i : Int) = false
  clo : ∀ i : Nat, i < l.length → getb u' (i : Int) = false → eA l i ≠ a ∧ eB l i ≠ a ∧ ∀ e ∈ J.map (ori l), eA l i ≠ e.1 ∧ eA l i ≠ e.2 ∧ eB l i ≠ e.1 ∧ eB l i ≠ e.2
  cnt : u'.count false + J.length = u.count false

/-- The walk's loop, before piece k. -/
structure Lp (l : List (Int × Int)) (u u' : List Bool) (a t : Int) (J : List (Nat × Bool)) (k : Nat) : Prop where
  len : u'.length = l.length
  mono : ∀ i : Nat, getb u (i : Int) = true → getb u' (i : Int) = true
  nod : (J.map (fun x => x.1)).Nodup
  mem : ∀ i : Nat, i ∈ J.map (fun x => x.1) ↔ i < l.length ∧ getb u' (i : Int) = true ∧ getb u (i : Int) = false
  cnt : u'.count false + J.length = u.count false
  tr : ∃ t', Par l u' a t' ∧ isT t' (J.map (ori l)).reverse t
  clo : ∀ i : Nat, i < l.length → getb u' (i : Int) = false → ∀ e ∈ J.map (ori l), ∀ w, (w = e.1 ∨ w = e.2) → w ≠ a → eA l i ≠ w ∧ eB l i ≠ w
  bef : ∀ i : Nat, i < k → i < l.length → getb u' (i : Int) = false → eA l i ≠ a ∧ eB l i ≠ a

theorem Lp.done {u u' : List Bool} {a t : Int} {J : List (Nat × Bool)} (h : Lp l u u' a t J l.length) : Wk l u u' a t J := by
  have hz : ∀ i : Nat, i < l.length → getb u' (i : Int) = false → eA l i ≠ a ∧ eB l i ≠ a := fun i hi => h.bef i hi hi
  obtain ⟨t', hp, ht⟩ := h.tr
  have h0 := dg_zero hz
  have ea : t' = a := by
    have := hp a
    rw [h0] at this
    unfold dl at this
    rw [if_pos rfl] at this
    by_cases q : t' = a
    · exact q
    · rw [if_neg q] at this; omega
  rw [ea] at ht hp
  refine ⟨h.len, h.mono, ht, fun v => by have := hp v; omega, h.nod, h.mem, fun i hi hu => ?_, h.cnt⟩
  obtain ⟨z1, z2⟩ := hz i hi hu
  refine ⟨z1, z2, fun e he => ?_⟩
  have c1 := h.clo i hi hu e he e.1 (Or.inl rfl)
  have c2 := h.clo i hi hu e he e.2 (Or.inr rfl)
  refine ⟨fun q => ?_, fun q => ?_, fun q => ?_, fun q => ?_⟩
  · by_cases w : e.1 = a
    · exact z1 (q.trans w)
    · exact (c1 w).1 q
  · by_cases w : e.2 = a
    · exact z1 (q.trans w)
    · exact (c2 w).1 q
  · by_cases w : e.1 = a
    · exact z2 (q.trans w)
    · exact (c1 w).2 q
  · by_cases w : e.2 = a
    · exact z2 (q.trans w)
    · exact (c2 w).2 q

theorem cnt_set {u : List Bool} {k : Nat} (hk : k < u.length) (h0 : getb u (k : Int) = false) : (u.set k true).count false + 1 = u.count false := by
  have hg : u[k] = false := by
    rw [getb, Int.toNat_natCast, List.getD_eq_getElem?_getD, List.getElem?_eq_getElem hk] at h0
    exact h0
  have hp : 0 < u.count false := List.count_pos_iff.2 (by rw [← hg]; exact List.getElem_mem hk)
  rw [List.count_set hk, hg]
  simp
  omega

/-- A piece is taken. -/
theorem Lp.take {u u' u2 : List Bool} {a t : Int} {J Js : List (Nat × Bool)} {k : Nat} {b : Bool} (hk : k < l.length) (h : Lp l u u' a t J k) (h0 : getb u' (k : Int) = false) (hb : (ori l (k, b)).1 = a)
    {t' : Int} (htr : isT t' (J.map (ori l)).reverse t) (hs : Wk l (u'.set k true) u2 (ori l (k, b)).2 t' Js) : Lp l u u2 a t (J ++ (Js ++ [(k, b)])) (k + 1) := by
  have hul : k < u'.length := by rw [h.len]; exact hk
  have hset : ∀ j : Nat, getb (u'.set k true) (j : Int) = if j = k then true else getb u' (j : Int) := fun j => getb_st hul
  have h2k : getb u2 (k : Int) = true := hs.mono k (by rw [hset, if_pos rfl])
  have mono2 : ∀ i : Nat, getb u' (i : Int) = true → getb u2 (i : Int) = true := fun i hi => hs.mono i (by rw [hset]; split; rfl; exact hi)
  have huk : getb u (k : Int) = false := by
    cases q : getb u (k : Int) with
    | false => rfl
    | true => have := h.mono k q; rw [h0] at this; exact this.symm
  refine ⟨hs.len, fun i hi => mono2 i (h.mono i hi), ?_, fun i => ?_, ?_, ⟨a, fun v => by have := hs.even v; omega, ?_⟩, ?_, ?_⟩
  · rw [List.map_append, List.map_append, List.nodup_append]
    refine ⟨h.nod, ?_, ?_⟩
    · rw [List.nodup_append]
      refine ⟨hs.nod, by simp, fun x hx y hy e => ?_⟩
      simp at hy
      have := ((hs.mem x).1 hx).2.2
      rw [hset, if_pos (by rw [e, hy])] at this
      cases this
    · intro x hx y hy e
      have hx' := ((h.mem x).1 hx).2.1
      rcases List.mem_append.1 hy with z | z
      · have := ((hs.mem y).1 z).2.2
        rw [hset] at this
        split at this
        · cases this
        · rw [← e, hx'] at this; cases this
      · simp at z
        rw [e, z, h0] at hx'; cases hx'
  · rw [List.map_append, List.map_append, List.mem_append, List.mem_append, h.mem, hs.mem, hset]
    simp only [List.map_cons, List.map_nil, List.mem_singleton]
    constructor
    · rintro (⟨x1, x2, x3⟩ | ⟨x1, x2, x3⟩ | x)
      · exact ⟨x1, mono2 i x2, x3⟩
      · refine ⟨x1, x2, ?_⟩
        split at x3
        · cases x3
        · cases q : getb u (i : Int) with
          | false => rfl
          | true => have := h.mono i q; rw [x3] at this; exact this.symm
      · rw [x]; exact ⟨hk, h2k, huk⟩
    · rintro ⟨x1, x2, x3⟩
      by_cases e : i = k
      · exact Or.inr (Or.inr e)
      · cases q : getb u' (i : Int) with
        | true => exact Or.inl ⟨x1, rfl, x3⟩
        | false => exact Or.inr (Or.inl ⟨x1, x2, by rw [if_neg e]⟩)
  · have c1 := h.cnt
    have c2 := hs.cnt
    have c3 := cnt_set hul h0
    rw [List.length_append, List.length_append, List.length_singleton]
    omega
  · rw [List.map_append, List.map_append, List.reverse_append, List.reverse_append]
    exact isT_append (b := t') ⟨hb, hs.trail⟩ htr
  · intro i hi hu e he w hw hwa
    have hu' : getb u' (i : Int) = false := by
      cases q : getb u' (i : Int) with
      | false => rfl
      | true => have := mono2 i q; rw [hu] at this; exact this.symm
    obtain ⟨s1, s2, s3⟩ := hs.clo i hi hu
    rw [List.map_append, List.map_append] at he
    rcases List.mem_append.1 he with z | z
    · exact h.clo i hi hu' e z w hw hwa
    · rcases List.mem_append.1 z with z | z
      · obtain ⟨y1, y2, y3, y4⟩ := s3 e z
        rcases hw with rfl | rfl
        · exact ⟨y1, y3⟩
        · exact ⟨y2, y4⟩
      · simp at z
        rcases hw with rfl | rfl
        · rw [z, hb] at hwa; exact absurd rfl hwa
        · rw [z]; exact ⟨s1, s2⟩
  · intro i hik hi hu
    have hu' : getb u' (i : Int) = false := by
      cases q : getb u' (i : Int) with
      | false => rfl
      | true => have := mono2 i q; rw [hu] at this; exact this.symm
    by_cases e : i = k
    · rw [e, h2k] at hu; cases hu
    · exact h.bef i (by omega) hi hu'

/-- The walk. -/
theorem walk_f (hn : l.length ≤ 60) : ∀ (f : Nat) (u : List Bool) (way : List (Int × Int)) (a t : Int), u.length = l.length → u.count false < f → way.length + u.count false ≤ 100 → Par l u a t →
    ∃ u' J, domino_walker_walk_mF f l u way a = some (u', way ++ J.map (ori l)) ∧ Wk l u u' a t J
  | 0, _, _, _, _, _, h, _, _ => by omega
  | f + 1, u, way, a, t, hu, hf, hw, hp => by
    have ih := walk_f hn f
    obtain ⟨r, e, J, hr, hJ⟩ := count_loop (step := domino_walker_walk_L1 (domino_walker_walk_mF f) l u a) (fun (x : List Bool × List (Int × Int)) (k : Nat) => (x.1, x.2, (k : Int)))
      (fun k x => ∃ J, x.2 = way ++ J.map (ori l) ∧ Lp l u x.1 a t J k) (fun r => ∃ J, r.2 = way ++ J.map (ori l) ∧ Wk l u r.1 a t J) l.length (u, way)
      ⟨[], by simp, hu, fun i hi => hi, by simp, fun i => ⟨fun h => by simp at h, fun h => by rw [h.2.1] at h; exact absurd h.2.2 (by decide)⟩, by simp, ⟨t, hp, rfl⟩, fun i hi hx e he => by simp at he, fun i hi => by omega⟩ (by
      rintro k ⟨u', w⟩ hk ⟨J, hwJ, hL⟩
      dsimp only at hwJ hL
      left
      have hl' := hL.len
      simp only [domino_walker_walk_L1, domino_walker_walk_J2]
      rw [if_pos (decide_eq_true (by omega)), asrt_pos (by omega), asrt_pos (by omega)]
      by_cases q : getb u' (k : Int) = true ∨ (eA l k ≠ a ∧ eB l k ≠ a)
      · refine ⟨(u', w), ?_, J, hwJ, hL.len, hL.mono, hL.nod, hL.mem, hL.cnt, hL.tr, hL.clo, fun i hik hi hx => ?_⟩
        · rw [if_pos (by rw [Bool.or_eq_true, Bool.and_eq_true, bne_iff_ne, bne_iff_ne]; exact q)]
          simp only [domino_walker_walk_J3]
          rw [w64_of (by omega)]; rfl
        · by_cases e : i = k
          · subst e
            dsimp only at hx
            rcases q with q | q
            · rw [q] at hx; cases hx
            · exact q
          · exact hL.bef i (by omega) hi hx
      · have h0 : getb u' (k : Int) = false := by
          cases z : getb u' (k : Int) with
          | false => rfl
          | true => exact absurd (Or.inl z) q
        have hab : eA l k = a ∨ eB l k = a := by
          by_cases z : eA l k = a
          · exact Or.inl z
          · by_cases z2 : eB l k = a
            · exact Or.inr z2
            · exact absurd (Or.inr ⟨z, z2⟩) q
        obtain ⟨t', hp', ht'⟩ := hL.tr
        have hul : k < u'.length := by omega
        have c3 := cnt_set hul h0
        have c1 := hL.cnt
        have key : ∀ b : Bool, (ori l (k, b)).1 = a → dl a = dl (ori l (k, b)).1 → ∃ s' : List Bool × List (Int × Int), domino_walker_walk_J5 (domino_walker_walk_mF f) l u u' w (k : Int) (ori l (k, b)).1 (ori l (k, b)).2 = some (.next (s'.1, s'.2, ((k + 1 : Nat) : Int))) ∧ ∃ J, s'.2 = way ++ J.map (ori l) ∧ Lp l u s'.1 a t J (k + 1) := fun b hb _ => by
          have hpar : Par l (u'.set k true) (ori l (k, b)).2 t' := fun v => by
            have h1 := hp' v
            rw [dg_set hl' hk h0 v] at h1
            have h2 : cc l v k = dl (ori l (k, b)).1 v + dl (ori l (k, b)).2 v := by
              unfold cc ori
              cases b
              · rfl
              · exact Int.add_comm _ _
            rw [hb] at h2
            omega
          have hlw : w.length = way.length + J.length := by rw [hwJ, List.length_append, List.length_map]
          obtain ⟨u2, Js, e2, hs⟩ := ih (u'.set k true) w (ori l (k, b)).2 t' (by rw [List.length_set]; exact hl') (by omega) (by omega) hpar
          have c4 := hs.cnt
          refine ⟨(u2, w ++ Js.map (ori l) ++ [ori l (k, b)]), ?_, J ++ (Js ++ [(k, b)]), ?_, hL.take hk h0 hb ht' hs⟩
          · unfold domino_walker_walk_J5 domino_walker_walk_J3
            rw [asrt_pos (by omega), Int.toNat_natCast, e2, Option.bind_some]
            dsimp only
            rw [asrt_pos (by rw [List.length_append, List.length_map]; unfold bigK; omega), w64_of (by omega)]; rfl
          · dsimp only
            rw [hwJ]; simp
        rw [if_neg (by rw [Bool.or_eq_true, Bool.and_eq_true, bne_iff_ne, bne_iff_ne]; exact q)]
        unfold domino_walker_walk_J4
        by_cases z : eA l k = a
        · rw [if_neg (by rw [bne_iff_ne]; exact fun w => w z)]
          exact key false z (by rw [show (ori l (k, false)).1 = a from z])
        · have z2 : eB l k = a := hab.resolve_left z
          rw [if_pos (by rw [bne_iff_ne]; exact z)]
          unfold domino_turned_m
          rw [Option.bind_some]
          exact key true z2 (by rw [show (ori l (k, true)).1 = a from z2])) (by
      rintro ⟨u', w⟩ ⟨J, hwJ, hL⟩
      refine ⟨(u', w), ?_, J, hwJ, hL.done⟩
      simp only [domino_walker_walk_L1]
      rw [if_neg (by simp)])
    refine ⟨r.1, J, ?_, hJ⟩
    show domino_walker_walk_B (domino_walker_walk_mF f) l u way a = _
    unfold domino_walker_walk_B
    have e' : loop (domino_walker_walk_L1 (domino_walker_walk_mF f) l u a) (u, way, 0) = some r := e
    rw [e', Option.bind_some, ← hr]; rfl
end
end Go.Proofs.Ytbmhcapeikebgaa
