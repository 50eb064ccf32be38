/-
  SlideHomes: what the kernel saw, in words.
-/
import Derived.Test.YtkpkkdpfcbnfdaaHnc
namespace Go.Proofs.Ytkpkkdpfcbnfdaa
open Go Go.GL

/-- Cells as numbers of the program. -/
def ci (c : List Nat) : List Int := c.map fun x : Nat => (x : Int)
theorem ci_length (c : List Nat) : (ci c).length = c.length := List.length_map _
theorem ci_geti (c : List Nat) (j : Nat) : geti (ci c) (j : Int) = ((c.getD j 0 : Nat) : Int) := by
  rw [geti_nat]
  unfold ci
  simp only [List.getD_eq_getElem?_getD, List.getElem?_map]
  cases c[j]? <;> rfl
theorem ci_inj : ∀ {c d : List Nat}, ci c = ci d → c = d
  | [], [], _ => rfl
  | x :: c, y :: d, h => by
    simp only [ci, List.map_cons, List.cons.injEq] at h
    rw [ci_inj (c := c) (d := d) h.2, show x = y by omega]
  | [], _ :: _, h => by simp [ci] at h
  | _ :: _, [], h => by simp [ci] at h
theorem ci_mem {c : List Nat} {j : Nat} : (j : Int) ∈ ci c ↔ j ∈ c := by
  unfold ci
  simp only [List.mem_map]
  constructor
  · rintro ⟨x, hx, h⟩
    rw [show j = x by omega]; exact hx
  · intro h; exact ⟨j, h, rfl⟩
theorem swp_ci (c : List Nat) (g a : Nat) : ci (swp c g a) = ((ci c).set g (geti (ci c) (a : Int))).set a 0 := by
  rw [ci_geti]
  unfold ci swp
  rw [List.map_set, List.map_set]; rfl
theorem swp_length (c : List Nat) (g a : Nat) : (swp c g a).length = c.length := by simp [swp]

theorem eqn_iff : ∀ {l m : List Nat}, eqn l m = true ↔ l = m
  | [], [] => by simp [eqn]
  | a :: l, b :: m => by simp [eqn, eqn_iff (l := l) (m := m)]
  | [], _ :: _ => by simp [eqn]
  | _ :: _, [] => by simp [eqn]
theorem has_iff {S : List Ent} {c : List Nat} : has S c = true ↔ ∃ e ∈ S, e.1 = c := by
  simp [has, List.any_eq_true, eqn_iff]

theorem facN_eq : ∀ n, facN n = fac n
  | 0 => rfl
  | n + 1 => by simp only [facN, fac, facN_eq n]
theorem NmN_eq : ∀ l : List Nat, NmN l = Nm (ci l)
  | [] => rfl
  | x :: t => by
    simp only [NmN, ci, List.map_cons, Nm, List.length_map, facN_eq, List.countP_map]
    rw [NmN_eq t]
    congr 2
    apply List.countP_congr
    intro y _
    simp
theorem smN_eq (f : Nat → Nat) : ∀ n, sm n (fun i => (f i : Int)) = (smN n f : Int)
  | 0 => rfl
  | n + 1 => by rw [sm_succ, smN_eq f n]; simp [smN]

/-- The facts of a finished search. -/
structure Done (w h : Nat) (S : List Ent) : Prop where
  len : S.length ≤ 390
  el : ∀ e ∈ S, okE w h e = true
  hd : S[0]? = some ((List.range (w * h)).map (fun i => (i + 1) % (w * h)), (S.getD 0 eZ).2.1, 0, 4)
  bk : ∀ j e, S[j + 1]? = some e → ∃ p ∈ S.take (j + 1), ∃ a, src w h e.2.1 (opp e.2.2.2) = some a ∧ p.2.1 = a ∧ p.1 = swp e.1 e.2.1 a ∧ p.2.2.1 + 1 = e.2.2.1 ∧ e.2.2.2 < 4
  nm : (S.map fun e => NmN e.1).Nodup
  pa : ∀ c : List Nat, c.Nodup → c.length = w * h → (∀ x ∈ c, x < w * h) → parN w h c (gapN c) = 0 → has S c = true

theorem chN_iff : ∀ {l : List Nat}, chN l = true → l.Nodup
  | [], _ => List.nodup_nil
  | x :: t, h => by
    simp only [chN, Bool.and_eq_true, Bool.not_eq_true', List.any_eq_false] at h
    refine List.nodup_cons.2 ⟨fun hx => h.1 x hx ?_, chN_iff h.2⟩
    simp
theorem chP_iff {f : List Nat → Bool} : ∀ (n : Nat) {left pre : List Nat}, chP f n left pre = true → ∀ l : List Nat, l.Nodup → l.length = n → (∀ x ∈ l, x ∈ left) → f (pre ++ l) = true
  | 0, left, pre, h, l, _, hl, _ => by
    rw [List.eq_nil_of_length_eq_zero hl, List.append_nil]; exact h
  | n + 1, left, pre, h, l, hn, hl, hm => by
    match l, hl with
    | x :: t, hl =>
      simp only [chP, List.all_eq_true] at h
      have h1 := h x (hm x (by simp))
      rw [List.nodup_cons] at hn
      have := chP_iff n h1 t hn.2 (by simpa using hl) (fun y hy => by
        simp only [List.mem_filter, Bool.not_eq_true']
        refine ⟨hm y (by simp [hy]), ?_⟩
        have : x ≠ y := fun e => hn.1 (e ▸ hy)
        rw [← Bool.not_eq_true, Nat.beq_eq]; exact this)
      simpa using this
theorem chB_iff {w h : Nat} : ∀ {r pre : List Ent}, chB w h pre r = true → ∀ j e, r[j]? = some e → ∃ p, (p ∈ pre ∨ p ∈ r.take j) ∧ ∃ a, src w h e.2.1 (opp e.2.2.2) = some a ∧ p.2.1 = a ∧ p.1 = swp e.1 e.2.1 a ∧ p.2.2.1 + 1 = e.2.2.1 ∧ e.2.2.2 < 4
  | [], _, _, j, e, h => by simp at h
  | x :: r, pre, h, 0, e, hj => by
    simp only [List.getElem?_cons_zero, Option.some.injEq] at hj
    subst hj
    simp only [chB, Bool.and_eq_true] at h
    have h1 := h.1.1
    unfold back at h1
    split at h1
    · cases h1
    · rename_i a ha
      simp only [List.any_eq_true, Bool.and_eq_true, decide_eq_true_eq, eqn_iff, Nat.beq_eq] at h1
      obtain ⟨p, hp, ⟨⟨h2, h3⟩, h4⟩, h5⟩ := h1
      exact ⟨p, .inl hp, a, ha, h2, h3, h4, h5⟩
  | x :: r, pre, h, j + 1, e, hj => by
    simp only [List.getElem?_cons_succ] at hj
    simp only [chB, Bool.and_eq_true] at h
    obtain ⟨p, hp, q⟩ := chB_iff h.2 j e hj
    refine ⟨p, ?_, q⟩
    rcases hp with hp | hp
    · rcases List.mem_cons.1 hp with rfl | hp
      · exact .inr (by simp)
      · exact .inl hp
    · exact .inr (by simp [hp])

theorem done_of {w h : Nat} {S : List Ent} (hc : chk w h S = true) : Done w h S := by
  unfold chk at hc
  match S, hc with
  | [], hc => simp at hc
  | e :: r, hc =>
    simp only [Bool.and_eq_true] at hc
    obtain ⟨⟨⟨⟨h1, h2⟩, ⟨⟨h3, h4⟩, h5⟩, h6⟩, h7⟩, h8⟩ := hc
    rw [eqn_iff] at h3
    refine ⟨by simpa using h1, fun x hx => List.all_eq_true.1 h2 x hx, ?_, ?_, chN_iff h7, ?_⟩
    · simp only [List.getElem?_cons_zero, List.getD_cons_zero, Option.some.injEq]
      rw [Nat.beq_eq] at h4 h5
      rw [← h3, ← h4, ← h5]
    · intro j x hx
      simp only [List.getElem?_cons_succ] at hx
      obtain ⟨p, hp, q⟩ := chB_iff h6 j x hx
      refine ⟨p, ?_, q⟩
      rcases hp with hp | hp
      · simp at hp; simp [hp]
      · simp [hp]
    · intro c hn hl hm hp
      have := chP_iff _ h8 c hn hl (fun x hx => by simpa using hm x hx)
      simp only [List.nil_append, hp] at this
      simpa using this
end Go.Proofs.Ytkpkkdpfcbnfdaa
namespace Go.Proofs.Ytkpkkdpfcbnfdaa
open Go Go.GL

def Shp (w h : Nat) : Prop := (w = 2 ∧ h = 2) ∨ (w = 2 ∧ h = 3) ∨ (w = 3 ∧ h = 2)
theorem Shp.w {w h : Nat} (s : Shp w h) : 2 ≤ w ∧ w ≤ 5 := by rcases s with s | s | s <;> omega
theorem Shp.h {w h : Nat} (s : Shp w h) : 2 ≤ h ∧ h ≤ 5 := by rcases s with s | s | s <;> omega
theorem Shp.n {w h : Nat} (s : Shp w h) : w * h = 4 ∨ w * h = 6 := by rcases s with ⟨rfl, rfl⟩ | ⟨rfl, rfl⟩ | ⟨rfl, rfl⟩ <;> simp
theorem Shp.n6 {w h : Nat} (s : Shp w h) : 4 ≤ w * h ∧ w * h ≤ 6 := by have := s.n; omega

def srcI (o : Option Nat) : Int := match o with | none => -1 | some a => a
theorem src_tgt {w h : Nat} (s : Shp w h) {g d : Nat} (hg : g < w * h) (hd : d < 4) : tgt w h g (d : Int) = srcI (src w h g d) := by
  rcases s with ⟨rfl, rfl⟩ | ⟨rfl, rfl⟩ | ⟨rfl, rfl⟩
  · exact (by decide : ∀ g, g < 2 * 2 → ∀ d, d < 4 → tgt 2 2 g ((d : Nat) : Int) = srcI (src 2 2 g d)) g hg d hd
  · exact (by decide : ∀ g, g < 2 * 3 → ∀ d, d < 4 → tgt 2 3 g ((d : Nat) : Int) = srcI (src 2 3 g d)) g hg d hd
  · exact (by decide : ∀ g, g < 3 * 2 → ∀ d, d < 4 → tgt 3 2 g ((d : Nat) : Int) = srcI (src 3 2 g d)) g hg d hd

/-- A board: as many cells as there are, each number once, the gap where it is told. -/
structure Brd (w h : Nat) (c : List Nat) (g : Nat) : Prop where
  len : c.length = w * h
  gl : g < w * h
  gap : Gap (ci c) g

theorem el_ok {w h : Nat} {e : Ent} (k : okE w h e = true) : Brd w h e.1 e.2.1 ∧ Ord (ci e.1) ∧ parN w h e.1 e.2.1 = 0 ∧ pos (ci e.1) 0 = e.2.1 := by
  unfold okE at k
  simp only [Bool.and_eq_true, decide_eq_true_eq, Nat.beq_eq, List.all_eq_true, List.any_eq_true, List.mem_range] at k
  obtain ⟨⟨⟨⟨h1, h2⟩, h3⟩, h4⟩, h5⟩ := k
  have ho : Ord (ci e.1) := fun j hj => by
    rw [ci_length, h1] at hj
    obtain ⟨x, hx, hy⟩ := h4 j hj
    subst hy
    exact ci_mem.2 hx
  have hg := Gap.ord ho (by rw [ci_length]; omega)
  have h0 : geti (ci e.1) (e.2.1 : Int) = 0 := by
    rw [ci_geti]
    have : e.1.getD e.2.1 0 = 0 := by
      rw [List.getD_eq_getElem?_getD] at h3 ⊢
      rw [List.getElem?_eq_getElem (by omega)] at h3 ⊢
      exact h3
    omega
  have e1 := (hg.2 e.2.1 (by rw [ci_length]; omega)).1 h0
  exact ⟨⟨h1, h2, e1 ▸ hg⟩, ho, h5, e1.symm⟩

section
variable {w h : Nat} (s : Shp w h)
include s

theorem src_bd {g a d : Nat} (hg : g < w * h) (hd : d < 4) (k : src w h g d = some a) : a < w * h ∧ a ≠ g := by
  have h1 := tgt_bd s.w s.h (g := g) (d : Int)
  have h2 := tgt_ne s.w (b := h) (g := g) (d : Int)
  rw [src_tgt s hg hd, k] at h1 h2
  simp only [srcI] at h1 h2
  omega
theorem Brd.move {c : List Nat} {g a d : Nat} (b : Brd w h c g) (hd : d < 4) (k : src w h g d = some a) : Brd w h (swp c g a) a := by
  have q := src_bd s b.gl hd k
  refine ⟨by rw [swp_length, b.len], q.1, ?_⟩
  rw [swp_ci]
  exact b.gap.move (by rw [ci_length, b.len]; exact q.1) q.2
theorem mv_prog {c : List Nat} {g d : Nat} (b : Brd w h c g) (hd : d < 4) : slide_tray_move_m w h (ci c) g d = some (match src w h g d with | none => (false, ci c, (g : Int)) | some a => (true, ci (swp c g a), (a : Int))) := by
  rw [move_p s.w s.h (by rw [ci_length, b.len]) b.gl, src_tgt s b.gl hd]
  cases src w h g d with
  | none => rfl
  | some a =>
    rw [if_pos (show 0 ≤ srcI (some a) from Int.natCast_nonneg a)]
    dsimp only
    rw [swp_ci]; rfl
theorem mv_doc {c : List Nat} {g d : Nat} (b : Brd w h c g) (hd : d < 4) : gameroomref_SlideMove_m w h (ci c) d = some ((w : Int), (h : Int), (match src w h g d with | none => ci c | some a => ci (swp c g a)), (src w h g d).isSome) := by
  rw [move_r s.w s.h (by rw [ci_length, b.len]) (by have := s.n6; omega) b.gap, src_tgt s b.gl hd]
  cases src w h g d with
  | none => rfl
  | some a =>
    rw [if_pos (show 0 ≤ srcI (some a) from Int.natCast_nonneg a), decide_eq_true (show 0 ≤ srcI (some a) from Int.natCast_nonneg a)]
    dsimp only
    rw [swp_ci]; rfl
end
end Go.Proofs.Ytkpkkdpfcbnfdaa
namespace Go.Proofs.Ytkpkkdpfcbnfdaa
open Go Go.GL

theorem inj_of_nodup {α : Type} {f : α → Nat} : ∀ {l : List α}, (l.map f).Nodup → ∀ x ∈ l, ∀ y ∈ l, f x = f y → x = y
  | [], _, x, hx, _, _, _ => by cases hx
  | a :: l, h, x, hx, y, hy, e => by
    rw [List.map_cons, List.nodup_cons] at h
    rcases List.mem_cons.1 hx with u | u <;> rcases List.mem_cons.1 hy with v | v
    · rw [u, v]
    · exact absurd (List.mem_map.2 ⟨y, v, by rw [← e, u]⟩) h.1
    · exact absurd (List.mem_map.2 ⟨x, u, by rw [e, v]⟩) h.1
    · exact inj_of_nodup h.2 x u y v e
theorem pre_at {α : Type} {S F : List α} (h : S <+: F) {i : Nat} (hi : i < S.length) : F[i]? = S[i]? := by
  obtain ⟨t, rfl⟩ := h
  rw [List.getElem?_append_left hi]
theorem pre_at' {α : Type} {S F : List α} (h : S <+: F) {i : Nat} {e : α} (hi : S[i]? = some e) : F[i]? = some e := by
  rw [pre_at h (List.getElem?_eq_some_iff.1 hi).1, hi]
theorem mem_at {α : Type} {S : List α} {i : Nat} {e : α} (hi : S[i]? = some e) : e ∈ S := by
  obtain ⟨h1, rfl⟩ := List.getElem?_eq_some_iff.1 hi
  exact List.getElem_mem _

section
variable {w h : Nat}
theorem stp_pre (e : Ent) (S : List Ent) (d : Nat) : S <+: stp w h e S d := by
  unfold stp
  split
  · exact List.prefix_refl _
  · split
    · exact List.prefix_refl _
    · exact List.prefix_append _ _
theorem fold_pre (e : Ent) : ∀ (l : List Nat) (S : List Ent), S <+: l.foldl (stp w h e) S
  | [], _ => List.prefix_refl _
  | d :: l, _ => (stp_pre e _ d).trans (fold_pre e l _)
theorem expd_pre (S : List Ent) (i : Nat) : S <+: expd w h S i := fold_pre _ _ _
theorem bfs_pre : ∀ (n : Nat) (S : List Ent) (i : Nat), S <+: bfs w h n S i
  | 0, S, _ => List.prefix_refl _
  | n + 1, S, i => by
    unfold bfs
    split
    · exact (expd_pre S i).trans (bfs_pre n _ _)
    · exact List.prefix_refl _
theorem has_app {S : List Ent} {x : Ent} {c : List Nat} : has (S ++ [x]) c = (has S c || eqn x.1 c) := by simp [has]

def gAll (w h : Nat) (S : List Ent) : List (Int × Int × List Int) := S.map fun e => ((w : Int), (h : Int), ci e.1)
def gFar (S : List Ent) : List Int := S.map fun e => (e.2.2.1 : Int)
theorem gAll_at {S : List Ent} {i : Nat} {e : Ent} (hi : S[i]? = some e) : getd zP32 (gAll w h S) (i : Int) = ((w : Int), (h : Int), ci e.1) := getd_some (by simp [gAll, hi])
theorem gFar_at {S : List Ent} {i : Nat} {e : Ent} (hi : S[i]? = some e) : geti (gFar S) (i : Int) = (e.2.2.1 : Int) := geti_some (by simp [gFar, hi])
theorem gAll_length (S : List Ent) : (gAll w h S).length = S.length := List.length_map _
theorem gFar_length (S : List Ent) : (gFar S).length = S.length := List.length_map _

theorem getb_set {l : List Bool} {i j : Nat} (hi : i < l.length) : getb (l.set i true) (j : Int) = if j = i then true else getb l (j : Int) := by
  unfold getb
  simp only [Int.toNat_natCast, List.getD_eq_getElem?_getD, List.getElem?_set]
  by_cases e : i = j
  · subst e; simp [hi]
  · rw [if_neg e, if_neg (fun q => e q.symm)]

theorem far_le : ∀ (n : Nat) (S : List Ent) (i : Nat) (k : Nat), (∀ e ∈ S, e.2.2.1 ≤ k) → ∀ e ∈ bfs w h n S i, e.2.2.1 ≤ k + n
  | 0, S, i, k, hk, e, he => by have := hk e he; omega
  | n + 1, S, i, k, hk, e, he => by
    unfold bfs at he
    split at he
    · rename_i hi
      have e0 : (S.getD i eZ).2.2.1 ≤ k := by
        rw [List.getD_eq_getElem?_getD, List.getElem?_eq_getElem hi]
        exact hk _ (List.getElem_mem _)
      have one : ∀ (T : List Ent) (d : Nat), (∀ x ∈ T, x.2.2.1 ≤ k + 1) → ∀ x ∈ stp w h (S.getD i eZ) T d, x.2.2.1 ≤ k + 1 := fun T d hT x hx => by
        unfold stp at hx
        split at hx
        · exact hT x hx
        · split at hx
          · exact hT x hx
          · rcases List.mem_append.1 hx with hx | hx
            · exact hT x hx
            · rw [List.mem_singleton] at hx; subst hx; dsimp only; omega
      have all : ∀ (l : List Nat) (T : List Ent), (∀ x ∈ T, x.2.2.1 ≤ k + 1) → ∀ x ∈ l.foldl (stp w h (S.getD i eZ)) T, x.2.2.1 ≤ k + 1 := by
        intro l
        induction l with
        | nil => intro T hT x hx; exact hT x hx
        | cons d l ih => intro T hT x hx; exact ih _ (one T d hT) x hx
      have := far_le n _ (i + 1) (k + 1) (all [0, 1, 2, 3] S (fun x hx => by have := hk x hx; omega)) e he
      omega
    · have := hk e he; omega

variable (s : Shp w h) {F : List Ent} (D : Done w h F) (hF : ∀ e ∈ F, e.2.2.1 ≤ 400)
include s D hF

theorem doc_step {S : List Ent} {i d : Nat} {e : Ent} (hi : S[i]? = some e) (hd : d < 4) (hp : stp w h e S d <+: F) {seen : List Bool} (hl : seen.length = fac (w * h)) (hs : ∀ x ∈ F, getb seen (NmN x.1 : Nat) = has S x.1) :
    ∃ seen' : List Bool, seen'.length = fac (w * h) ∧ (∀ x ∈ F, getb seen' (NmN x.1 : Nat) = has (stp w h e S d) x.1) ∧
      gameroomref_SlideFar_L2 ((fac (w * h) : Nat) : Int) (i : Int) (gAll w h S, gFar S, seen, (d : Int)) = some (.next (gAll w h (stp w h e S d), gFar (stp w h e S d), seen', ((d + 1 : Nat) : Int))) := by
  have hSF : S <+: F := (stp_pre e S d).trans hp
  have heF := mem_at (pre_at' hSF hi)
  have b := (el_ok (D.el e heF)).1
  have hiS := (List.getElem?_eq_some_iff.1 hi).1
  have hlen := hSF.length_le
  have hD := D.len
  have n6 := s.n6
  simp only [gameroomref_SlideFar_L2]
  rw [if_pos (decide_eq_true (by omega))]
  unfold gameroomref_SlideFar_J4
  rw [asrt_pos (by rw [gAll_length]; omega), gAll_at hi]
  dsimp only
  rw [mv_doc s b hd, Option.bind_some]
  cases k : src w h e.2.1 d with
  | none =>
    refine ⟨seen, hl, ?_, ?_⟩
    · have : stp w h e S d = S := by unfold stp; rw [k]
      rw [this]; exact hs
    · have : stp w h e S d = S := by unfold stp; rw [k]
      rw [this]
      simp only [Option.isSome_none, Bool.not_false, Bool.not_true]
      rw [if_neg (by decide), Option.bind_some, asrt_pos (by simp), if_pos (by simp)]
      unfold gameroomref_SlideFar_J5
      rw [w64_of (by omega)]; rfl
  | some a =>
    dsimp only
    have b2 := b.move s hd k
    have hcl : (ci (swp e.1 e.2.1 a)).length = w * h := by rw [ci_length, b2.len]
    have hnm : gameroomref_NumberOf_m (ci (swp e.1 e.2.1 a)) = some ((NmN (swp e.1 e.2.1 a) : Nat) : Int) := by rw [number_r (by omega), NmN_eq]
    have hlt : NmN (swp e.1 e.2.1 a) < fac (w * h) := by rw [NmN_eq, ← hcl]; exact Nm_lt _
    rw [Option.isSome_some]
    simp only [Bool.not_true, Bool.not_false]
    rw [if_pos trivial, hnm, Option.bind_some, asrt_pos (fun _ => by rw [Int.toNat_natCast]; omega)]
    have st : stp w h e S d = if has S (swp e.1 e.2.1 a) then S else S ++ [(swp e.1 e.2.1 a, a, e.2.2.1 + 1, d)] := by unfold stp; rw [k]
    by_cases q : has S (swp e.1 e.2.1 a) = true
    · rw [if_pos q] at st
      refine ⟨seen, hl, by rw [st]; exact hs, ?_⟩
      obtain ⟨x, hx, hxe⟩ := has_iff.1 q
      have h1 := hs x (hSF.mem hx)
      rw [hxe, q] at h1
      rw [st, h1, if_pos (by simp)]
      unfold gameroomref_SlideFar_J5
      rw [w64_of (by omega)]; rfl
    · rw [if_neg q] at st
      rw [st] at hp
      have hnF : (swp e.1 e.2.1 a, a, e.2.2.1 + 1, d) ∈ F := hp.mem (by simp)
      have h1 := hs _ hnF
      dsimp only at h1
      have hf := hF e heF
      refine ⟨seen.set (NmN (swp e.1 e.2.1 a)) true, by rw [List.length_set]; exact hl, ?_, ?_⟩
      · intro x hx
        rw [getb_set (by omega), st, has_app]
        by_cases u : NmN x.1 = NmN (swp e.1 e.2.1 a)
        · have := inj_of_nodup D.nm x hx _ hnF u
          rw [if_pos u, this]
          dsimp only
          rw [eqn_iff.2 rfl, Bool.or_true]
        · have u2 : eqn (swp e.1 e.2.1 a) x.1 = false := by
            rw [← Bool.not_eq_true, eqn_iff]; intro z; exact u (by rw [z])
          rw [if_neg u, hs x hx]
          dsimp only
          rw [u2, Bool.or_false]
      · rw [h1, if_neg (by simpa using q)]
        unfold gameroomref_SlideFar_J6
        dsimp only
        rw [hnm, Option.bind_some, asrt_pos (by rw [Int.toNat_natCast]; omega), asrt_pos (by rw [gAll_length]; unfold bigK; omega), asrt_pos (by rw [gFar_length]; omega), asrt_pos (by rw [gFar_length]; unfold bigN; omega), gFar_at hi, w64_of (by omega), st]
        unfold gameroomref_SlideFar_J5
        rw [w64_of (by omega), Int.toNat_natCast]
        unfold gAll gFar
        rw [List.map_append, List.map_append]; rfl

theorem doc_row {n : Nat} {S : List Ent} {i : Nat} (hi : i < S.length) (hb : bfs w h n (expd w h S i) (i + 1) = F) {seen : List Bool} (hl : seen.length = fac (w * h)) (hs : ∀ x ∈ F, getb seen (NmN x.1 : Nat) = has S x.1) :
    ∃ seen' : List Bool, seen'.length = fac (w * h) ∧ (∀ x ∈ F, getb seen' (NmN x.1 : Nat) = has (expd w h S i) x.1) ∧
      loop (gameroomref_SlideFar_L2 ((fac (w * h) : Nat) : Int) (i : Int)) (gAll w h S, gFar S, seen, 0) = some (gAll w h (expd w h S i), gFar (expd w h S i), seen') := by
  have hp : expd w h S i <+: F := hb ▸ bfs_pre n _ _
  obtain ⟨e, he⟩ : ∃ e, S[i]? = some e := ⟨_, List.getElem?_eq_getElem hi⟩
  have hx : expd w h S i = stp w h e (stp w h e (stp w h e (stp w h e S 0) 1) 2) 3 := by
    unfold expd
    rw [List.getD_eq_getElem?_getD, he]; rfl
  rw [hx] at hp ⊢
  have p2 := (stp_pre e (stp w h e (stp w h e (stp w h e S 0) 1) 2) 3).trans hp
  have p1 := (stp_pre e (stp w h e (stp w h e S 0) 1) 2).trans p2
  have p0 := (stp_pre e (stp w h e S 0) 1).trans p1
  have e1 := pre_at' (stp_pre (w := w) (h := h) e S 0) he
  have e2 := pre_at' (stp_pre (w := w) (h := h) e (stp w h e S 0) 1) e1
  have e3 := pre_at' (stp_pre (w := w) (h := h) e (stp w h e (stp w h e S 0) 1) 2) e2
  obtain ⟨s0, l0, h0, r0⟩ := doc_step s D hF he (by omega : 0 < 4) p0 hl hs
  obtain ⟨s1, l1, h1, r1⟩ := doc_step s D hF e1 (by omega : 1 < 4) p1 l0 h0
  obtain ⟨s2, l2, h2, r2⟩ := doc_step s D hF e2 (by omega : 2 < 4) p2 l1 h1
  obtain ⟨s3, l3, h3, r3⟩ := doc_step s D hF e3 (by omega : 3 < 4) hp l2 h2
  refine ⟨s3, l3, h3, ?_⟩
  refine loop_next' r0 (loop_next' r1 (loop_next' r2 (loop_next' r3 (loop_done ?_))))
  simp only [gameroomref_SlideFar_L2]
  rw [if_neg (by decide)]

theorem doc_out : ∀ (n : Nat) (S : List Ent) (i : Nat) (seen : List Bool), bfs w h n S i = F → F.length < i + n → seen.length = fac (w * h) → (∀ x ∈ F, getb seen (NmN x.1 : Nat) = has S x.1) →
    loop (gameroomref_SlideFar_L1 ((fac (w * h) : Nat) : Int)) (gAll w h S, gFar S, seen, (i : Int)) = some (gAll w h F, gFar F)
  | 0, S, i, seen, hb, hn, hl, hs => by
    unfold bfs at hb
    subst hb
    refine loop_done ?_
    simp only [gameroomref_SlideFar_L1]
    rw [if_neg (by rw [gAll_length]; simp; omega)]
  | n + 1, S, i, seen, hb, hn, hl, hs => by
    unfold bfs at hb
    by_cases hi : i < S.length
    · rw [if_pos hi] at hb
      obtain ⟨s', l', h', r⟩ := doc_row s D hF hi hb hl hs
      have hlen : S.length ≤ F.length := (hb ▸ (expd_pre S i).trans (bfs_pre n _ _) : S <+: F).length_le
      have hD := D.len
      refine loop_next' ?_ (doc_out n _ (i + 1) s' hb (by omega) l' h')
      simp only [gameroomref_SlideFar_L1]
      rw [if_pos (decide_eq_true (by rw [gAll_length]; omega))]
      unfold gameroomref_SlideFar_J2
      rw [r, Option.bind_some]
      simp only [gameroomref_SlideFar_K2]
      unfold gameroomref_SlideFar_J3
      rw [w64_of (by omega)]; rfl
    · rw [if_neg hi] at hb
      subst hb
      refine loop_done ?_
      simp only [gameroomref_SlideFar_L1]
      rw [if_neg (by rw [gAll_length]; simp; omega)]
end
end Go.Proofs.Ytkpkkdpfcbnfdaa
