/-
  A small library of our own: rows whose outer slice is the call's own; the rows themselves may only be read, and may be anyone's.
-/
import Derived.Test.YtdjjomghggplpaaLibW
namespace Go.GL
open Go Go.RowKit

/-- The outer slice: headers of rows. -/
def hdrs (e : TypeId) (A : Option Addr) (n c : Nat) (hd : List Hd) (m : List (List Int)) : HP where
  at_ w f := (own e (.slice A n c) (hdV hd m)).at_ w f ∧ hd.length = m.length
  loc := fun hk h => ⟨HP.loc _ hk h.1, h.2⟩

section
variable {P : Program} {w0 w : World} {B : Nat} {l r ps : List HP} {t e : TypeId} {inf : TypeInfo} {A : Option Addr} {n c : Nat} {hd : List Hd} {m : List (List Int)}

theorem Sep.nilHdr (h : Sep w0 B w ps) (e : TypeId) : Sep w0 B w (hdrs e none 0 0 [] [] :: ps) := by
  have h1 := h.nil e
  exact Sep.upd (l := []) h1 fun f hf hfb => ⟨f, ⟨hf, rfl⟩, (Ex.refl w).mono (by simp), fun k hk => .inl hk, fun k hk => (hfb k hk).2⟩

theorem Sep.hlen (h : Sep w0 B w (l ++ hdrs e A n c hd m :: r)) : hd.length = m.length := by
  obtain ⟨f, hf, _⟩ := h.get
  exact hf.2
theorem Sep.lenH (h : Sep w0 B w (l ++ hdrs e A n c hd m :: r)) : n = m.length := by
  obtain ⟨f, hf, _⟩ := h.get
  have := own_len hf.1
  rw [hdV_length hf.2] at this
  exact this
theorem Sep.outH (h : Sep w0 B w (l ++ hdrs e A n c hd m :: r)) : Rd w w.heap.size A (hdV hd m) := by
  obtain ⟨f, hf, _⟩ := h.get
  exact own_rd hf.1

theorem RowsAll.app {B : Nat} : ∀ {h1 : List Hd} {m1 : List (List Int)} {h2 : List Hd} {m2 : List (List Int)}, RowsAll w B h1 m1 → RowsAll w B h2 m2 → RowsAll w B (h1 ++ h2) (m1 ++ m2)
  | [], [], _, _, _, k => k
  | [], _ :: _, _, _, h, _ => h.elim
  | _ :: _, [], _, _, h, _ => h.elim
  | _ :: _, _ :: _, _, _, h, k => ⟨h.1, RowsAll.app h.2 k⟩
theorem RowsAll.of {B : Nat} : ∀ {hd : List Hd} {m : List (List Int)}, hd.length = m.length → (∀ i : Nat, i < m.length → Rd w B (hdA hd i) (vI (geti2 m i)) ∧ (geti2 m i).length ≤ hdC hd i) → RowsAll w B hd m
  | [], [], _, _ => trivial
  | [], _ :: _, h, _ => by simp at h
  | _ :: _, [], h, _ => by simp at h
  | _ :: _, _ :: _, h, k => ⟨by simpa [hdA, hdC, geti2] using k 0 (by simp), RowsAll.of (by simpa using h) (fun i hi => by
      have := k (i + 1) (by simpa using hi)
      have e : ((i + 1 : Nat) : Int).toNat = i + 1 := by omega
      simp only [hdA, hdC, geti2, e, List.getD_cons_succ] at this
      simpa [hdA, hdC, geti2] using this)⟩
theorem RdRows.all {B : Nat} (h : RdRows w B A hd m) : RowsAll w B hd m := RowsAll.of h.len fun i hi => h.row i ⟨by omega, by omega⟩

theorem rdHdr (hS : Sep w0 B w ps) (i : Nat) (he : ps[i]? = some (hdrs e A n c hd m)) (h : RowsAll w w.heap.size hd m) : RdRows w w.heap.size A hd m := by
  refine ⟨h.len, (hS.at_ i he).outH, fun j hj => ?_⟩
  obtain ⟨k, rfl⟩ := Int.eq_ofNat_of_zero_le hj.1
  exact h.get k (by omega)

theorem hdV_app {h1 : List Hd} {m1 : List (List Int)} (h2 : List Hd) (m2 : List (List Int)) (hl : h1.length = m1.length) : hdV (h1 ++ h2) (m1 ++ m2) = hdV h1 m1 ++ hdV h2 m2 := by
  unfold hdV
  exact List.zipWith_append hl

theorem hdV_one (hd : List Hd) (m : List (List Int)) : ∀ u ∈ hdV hd m, u.oneCell' = true := by
  intro u hu
  unfold hdV at hu
  rw [List.mem_iff_getElem?] at hu
  obtain ⟨i, hi⟩ := hu
  rw [List.getElem?_zipWith] at hi
  split at hi
  · injection hi with hi; subst hi; rfl
  · cases hi

/-- Rows appended. -/
theorem run_appHdr {A2 : Option Addr} {n2 c2 : Nat} {hd2 : List Hd} {m2 : List (List Int)} (hS : Sep w0 B w (l ++ hdrs e A n c hd m :: r)) (hr : RdRows w w.heap.size A2 hd2 m2) (hm : n2 = m2.length) (ty : TypeId)
    (ht : P.underlying t = some (.slice e)) (hi : P.info? e = some inf) (hz : inf.zero = some (.slice none 0 0)) (hs : inf.size = 1) (hby : inf.bytes = 24) (hl : (n : Int) + n2 ≤ bigR) :
    ∃ A' c' w', (vS (Builtin.append_ #[t, t] ty #[.slice A n c, .slice A2 n2 c2])).run P w = .ok (.value (.slice A' (m ++ m2).length c')) w' ∧ Sep w0 B w' (l ++ hdrs e A' (m ++ m2).length c' (hd ++ hd2) (m ++ m2) :: r) := by
  have hn := hS.lenH
  have hlen := hS.hlen
  subst hm
  subst hn
  obtain ⟨f, ⟨⟨hf, hf2⟩, hf3⟩, hfb⟩ := hS.get
  have hvl : (hdV hd m).length = m.length := hdV_length hlen
  have hvl2 : (hdV hd2 m2).length = m2.length := hdV_length hr.len
  have hl2 : (hd ++ hd2).length = (m ++ m2).length := by simp [hlen, hr.len]
  cases A2 with
  | none =>
    have hm2 : m2 = [] := by
      cases m2 with
      | nil => rfl
      | cons x xs =>
        have := hr.out.some (by rw [hvl2]; simp)
        cases this
    subst hm2
    have hhd2 : hd2 = [] := List.eq_nil_of_length_eq_zero hr.len
    subst hhd2
    refine ⟨A, c, w, ?_, by simpa using hS⟩
    have := append_nilsrc ht hi hf ty c2
    simpa using vS_run this
  | some a =>
    have hcells : ∀ j u, (hdV hd2 m2)[j]? = some u → w.cell? (a.add j) = some u := fun j u hu => by
      obtain ⟨ad, h, _, hc⟩ := hr.out j u hu
      injection h with h
      subst h
      exact hc
    have hb : (m.length + m2.length) * inf.bytes ≤ 140737488355328 := by
      rw [hby]
      unfold bigR at hl
      omega
    have hf' : w.ownsRow 0 e 1 (.slice A m.length c) m.length (hdV hd m) := by rw [hvl] at hf; exact hf
    obtain ⟨v', w', hrun, hown, hg, _, hbl⟩ := run_append_own_at (P := P) w 0 t ty e inf _ 1 inf.bytes ht hi hz hs rfl rfl (by omega) (.slice A m.length c) m.length _ hf' a m2.length c2 (hdV hd2 m2) (by rw [hvl2]; omega) hcells (hdV_one _ _)
      (by unfold maxLen; unfold bigR at hl; omega) hb (Nat.zero_le _)
    rw [← hdV_app _ _ hlen] at hown
    have hown' : w'.ownsRow 0 e 1 v' (hdV (hd ++ hd2) (m ++ m2)).length (hdV (hd ++ hd2) (m ++ m2)) := by rw [hdV_length hl2, List.length_append]; exact hown
    obtain ⟨A', c', rfl, _⟩ := own_form hown'
    rw [hdV_length hl2] at hrun
    refine ⟨A', c', w', vS_run hrun, hS.upd fun f' hf' hb' => ⟨_, ⟨⟨by rw [hdV_length hl2] at hown' ⊢; exact hown', rfl⟩, hl2⟩, ?_, ?_, own_block (by rw [hdV_length hl2] at hown' ⊢; exact hown')⟩⟩
    · rw [hf'.1.2]; exact Ex.of_grown hg
    · intro k hk
      rw [hf'.1.2]
      rcases hbl with h | h
      · rw [hdV_length hl2] at h
        rw [h] at hk; exact .inl hk
      · rw [hdV_length hl2] at h
        rw [h] at hk
        simp at hk
        exact .inr (by omega)
end
end Go.GL
