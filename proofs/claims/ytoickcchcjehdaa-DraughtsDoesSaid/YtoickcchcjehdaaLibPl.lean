/-
  A small library of our own: rows that are written no more, kept in a pool; whoever has the pool may read them.
-/
import Derived.Test.YtoickcchcjehdaaLibBg
import Derived.Test.YtoickcchcjehdaaLibRt
namespace Go.GL
open Go Go.RowKit

/-- Where the pool is, the rows may be read. -/
def PoolR (g : HP) (A : Option Addr) (hd : List Hd) (m : List (List Int)) : Prop := ∀ w f, g.at_ w f → RdRows w w.heap.size A hd m
def PoolW (g : HP) (A : Option Addr) (x : List Int) : Prop := ∀ w f, g.at_ w f → Rd w w.heap.size A (vI x)
def PoolA (g : HP) (hd : List Hd) (m : List (List Int)) : Prop := ∀ w f, g.at_ w f → RowsAll w w.heap.size hd m
/-- A pool that holds another. -/
def PoolLe (g g' : HP) : Prop := ∀ w f, g'.at_ w f → ∃ f', g.at_ w f'

section
variable {w0 w : World} {B : Nat} {ps fs l r : List HP} {a b g g' g'' : HP} {A : Option Addr} {hd hd2 : List Hd} {m m2 : List (List Int)} {x : List Int} {e ei : TypeId} {n c : Nat}

theorem PoolLe.refl (g : HP) : PoolLe g g := fun _ f h => ⟨f, h⟩
theorem PoolLe.trans (h : PoolLe g g') (k : PoolLe g' g'') : PoolLe g g'' := fun w f hf => by
  obtain ⟨f', h'⟩ := k w f hf
  exact h w f' h'
theorem PoolLe.right : PoolLe b (twoB a b) := fun w f hf => by
  have hf' : SepL w [a, b] f := hf
  cases hf' with
  | cons _ h1 _ =>
    cases h1 with
    | cons hb _ _ => exact ⟨_, hb⟩
theorem PoolLe.left : PoolLe a (twoB a b) := fun w f hf => by
  have hf' : SepL w [a, b] f := hf
  cases hf' with
  | cons ha _ _ => exact ⟨_, ha⟩
theorem PoolR.mono (k : PoolLe g g') (h : PoolR g A hd m) : PoolR g' A hd m := fun w f hf => by
  obtain ⟨f', h'⟩ := k w f hf
  exact h w f' h'
theorem PoolW.mono (k : PoolLe g g') (h : PoolW g A x) : PoolW g' A x := fun w f hf => by
  obtain ⟨f', h'⟩ := k w f hf
  exact h w f' h'
theorem PoolA.mono (k : PoolLe g g') (h : PoolA g hd m) : PoolA g' hd m := fun w f hf => by
  obtain ⟨f', h'⟩ := k w f hf
  exact h w f' h'

theorem PoolR.at_ (h : PoolR g A hd m) (hS : Sep w0 B w ps) (i : Nat) (hi : ps[i]? = some g) : RdRows w w.heap.size A hd m := by
  obtain ⟨f, hf, _⟩ := (hS.at_ i hi).get
  exact h w f hf
theorem PoolW.at_ (h : PoolW g A x) (hS : Sep w0 B w ps) (i : Nat) (hi : ps[i]? = some g) : Rd w w.heap.size A (vI x) := by
  obtain ⟨f, hf, _⟩ := (hS.at_ i hi).get
  exact h w f hf

theorem PoolR.nil (g : HP) : PoolR g none [] [] := fun w f _ => ⟨rfl, Rd.nil _ _ _, fun i hi => by simp at hi; omega⟩
theorem PoolW.nil (g : HP) : PoolW g none [] := fun w f _ => Rd.nil _ _ _
theorem PoolR.rows : PoolR (twoB (rows e ei (.slice A n c) hd m) g) A hd m := fun w f hf => by
  obtain ⟨f', hl, hf'⟩ := PoolLe.left w f hf
  refine ⟨hl, ?_, fun i hi => ?_⟩
  · cases hf' with
    | cons h1 _ _ => exact own_rd h1
  · obtain ⟨F, h1, _, _⟩ := hf'.fn
    have h2 := h1 (i.toNat + 1) _ (by simpa using rowHP_get (ei := ei) hl hi)
    exact ⟨own_rd h2, by simpa using own_cap h2⟩
theorem PoolW.own : PoolW (twoB (GL.own e (.slice A n c) (vI x)) g) A x := fun w f hf => by
  obtain ⟨f', hf'⟩ := PoolLe.left w f hf
  exact own_rd hf'
theorem PoolR.row {i : Int} (h : PoolR g A hd m) (hi : 0 ≤ i ∧ i < m.length) : PoolW g (hdA hd i) (geti2 m i) := fun w f hf => ((h w f hf).row i hi).1
theorem PoolR.all (h : PoolR g A hd m) : PoolA g hd m := fun w f hf => (h w f hf).all
theorem PoolA.nil (g : HP) : PoolA g [] [] := fun _ _ _ => trivial
theorem PoolA.app (h : PoolA g hd m) (k : PoolA g hd2 m2) : PoolA g (hd ++ hd2) (m ++ m2) := fun w f hf => (h w f hf).app (k w f hf)
theorem PoolA.one (h : PoolW g A x) (hc : x.length ≤ c) : PoolA g [(A, c)] [x] := fun w f hf => ⟨⟨h w f hf, hc⟩, trivial⟩
theorem PoolR.hdrs (h : PoolA g hd m) : PoolR (twoB (GL.hdrs e A n c hd m) g) A hd m := fun w f hf => by
  obtain ⟨f1, hh⟩ := PoolLe.left w f hf
  obtain ⟨f2, hg⟩ := PoolLe.right w f hf
  have ha := h w f2 hg
  refine ⟨ha.len, own_rd hh.1, fun j hj => ?_⟩
  obtain ⟨k, rfl⟩ := Int.eq_ofNat_of_zero_le hj.1
  exact ha.get k (by omega)

theorem hdV_cut (hd : List Hd) (m : List (List Int)) (lo hi : Int) : hdV (cut hd lo hi) (cut m lo hi) = cut (hdV hd m) lo hi := by
  unfold hdV cut
  rw [List.drop_zipWith, List.take_zipWith]
theorem cut_lenI {α : Type} {m : List α} {lo hi : Int} (h : 0 ≤ lo ∧ lo ≤ hi ∧ hi ≤ (m.length : Int)) : ((cut m lo hi).length : Int) = hi - lo := by
  unfold cut
  rw [List.length_take, List.length_drop]
  omega
theorem RdRows.cut {c : Nat} {lo hi : Int} (h : RdRows w B A hd m) (hb : 0 ≤ lo ∧ lo ≤ hi ∧ hi ≤ (m.length : Int)) (hc : m.length ≤ c) : RdRows w B (cutAddr A c lo) (GL.cut hd lo hi) (GL.cut m lo hi) := by
  have hl := h.len
  have h1 := cut_lenI hb
  have h2 : ((GL.cut hd lo hi).length : Int) = hi - lo := cut_lenI (by omega)
  refine ⟨by omega, ?_, fun j hj => ?_⟩
  · rw [hdV_cut]
    exact h.out.cut hb.1 hb.2.1 (by rw [hdV_length hl]; exact hb.2.2) (by rw [hdV_length hl]; exact hc)
  · have h3 := h.row (lo + j) (by omega)
    have e1 : (lo + j).toNat = lo.toNat + j.toNat := by omega
    have e2 : hdA (GL.cut hd lo hi) j = hdA hd (lo + j) ∧ hdC (GL.cut hd lo hi) j = hdC hd (lo + j) := by
      unfold hdA hdC GL.cut
      rw [List.getD_eq_getElem?_getD, List.getD_eq_getElem?_getD, List.getElem?_take, if_pos (by omega), List.getElem?_drop, e1]
      exact ⟨rfl, rfl⟩
    have e3 : geti2 (GL.cut m lo hi) j = geti2 m (lo + j) := by
      unfold geti2 GL.cut
      rw [List.getD_eq_getElem?_getD, List.getD_eq_getElem?_getD, List.getElem?_take, if_pos (by omega), List.getElem?_drop, e1]
    rw [e2.1, e2.2, e3]
    exact h3
theorem PoolR.cut {lo hi : Int} (h : PoolR g A hd m) (hb : 0 ≤ lo ∧ lo ≤ hi ∧ hi ≤ (m.length : Int)) (hc : m.length ≤ c) : PoolR g (cutAddr A c lo) (GL.cut hd lo hi) (GL.cut m lo hi) := fun w f hf => (h w f hf).cut hb hc
end

section
variable {P : Program} {w0 w : World} {B : Nat} {l r ps : List HP} {t e ei : TypeId} {inf : TypeInfo} {A : Option Addr} {n c : Nat} {hd hd2 : List Hd} {m m2 : List (List Int)}

theorem rowHP_app (h : hd.length = m.length) : rowHP ei (hd ++ hd2) (m ++ m2) = rowHP ei hd m ++ rowHP ei hd2 m2 := by
  unfold rowHP
  exact List.zipWith_append h
/-- Two tails of rows are one. -/
theorem Sep.tailApp (h : Sep w0 B w (rowsTail ei hd2 m2 :: rowsTail ei hd m :: ps)) : Sep w0 B w (rowsTail ei (hd ++ hd2) (m ++ m2) :: ps) := by
  refine Sep.join (l := []) (p1 := rowsTail ei hd2 m2) (p2 := rowsTail ei hd m) (r := ps) h ?_
  rintro f1 f2 ⟨h1, h2⟩ ⟨h3, h4⟩ h8
  obtain ⟨z, hz', hm'⟩ := SepL.append h4 h2 (fun k hk hk' => h8 k hk' hk)
  refine ⟨z, ⟨by simp [h1, h3], by rw [rowHP_app h3]; exact hz'⟩, fun k hk => ?_⟩
  rcases (hm' k).1 hk with h | h
  · exact .inr h
  · exact .inl h

/-- append(rows, rows...): what is appended is used up. -/
theorem run_appRows {A2 : Option Addr} {n2 c2 : Nat} (hS : Sep w0 B w (rows e ei (.slice A2 n2 c2) hd2 m2 :: (l ++ rows e ei (.slice A n c) hd m :: r))) (ty : TypeId)
    (ht : P.underlying t = some (.slice e)) (hi : P.info? e = some inf) (hz : inf.zero = some (.slice none 0 0)) (hs : inf.size = 1) (hby : inf.bytes = 24) (hl : (n : Int) + n2 ≤ bigR) :
    ∃ A' c' w', (vS (Builtin.append_ #[t, t] ty #[.slice A n c, .slice A2 n2 c2])).run P w = .ok (.value (.slice A' (m ++ m2).length c')) w' ∧ Sep w0 B w' (l ++ rows e ei (.slice A' (m ++ m2).length c') (hd ++ hd2) (m ++ m2) :: r) := by
  have hn2 : n2 = m2.length := Sep.lenR (l := []) hS
  have hn : n = m.length := Sep.lenR (l := rows e ei (.slice A2 n2 c2) hd2 m2 :: l) hS
  have hr2 := Sep.rdRows (l := []) hS
  have hlen : hd.length = m.length := by
    obtain ⟨f, hf, _⟩ := Sep.get (l := rows e ei (.slice A2 n2 c2) hd2 m2 :: l) hS
    exact hf.1
  have hlen2 : hd2.length = m2.length := hr2.len
  subst hn2
  cases A2 with
  | none =>
    have hm2 : m2 = [] := by
      cases m2 with
      | nil => rfl
      | cons x xs =>
        have := hr2.out.some (by rw [hdV_length hlen2]; simp)
        cases this
    subst hm2
    have hhd2 : hd2 = [] := List.eq_nil_of_length_eq_zero hlen2
    subst hhd2
    have hS2 : Sep w0 B w (l ++ rows e ei (.slice A n c) hd m :: r) := Sep.del (l := []) hS
    subst hn
    have h2 := Sep.rowsSplit hS2
    obtain ⟨f, ⟨hf, hf2⟩, hfb⟩ := (show Sep w0 B w ((rowsTail ei hd m :: l) ++ own e (.slice A m.length c) (hdV hd m) :: r) from h2).get
    have := append_nilsrc ht hi hf ty c2
    exact ⟨A, c, w, by simpa using vS_run this, by simpa using hS2⟩
  | some a =>
    have hcells : ∀ j u, (hdV hd2 m2)[j]? = some u → w.cell? (a.add j) = some u := fun j u hu => by
      obtain ⟨ad, h, _, hc⟩ := hr2.out j u hu
      injection h with h
      subst h
      exact hc
    have hvl : (hdV hd m).length = m.length := hdV_length hlen
    have hvl2 : (hdV hd2 m2).length = m2.length := hdV_length hlen2
    have hl2 : (hd ++ hd2).length = (m ++ m2).length := by simp [hlen, hlen2]
    -- the headers apart
    have h1 : Sep w0 B w (rowsTail ei hd2 m2 :: (own e (.slice (some a) m2.length c2) (hdV hd2 m2) :: (l ++ rows e ei (.slice A n c) hd m :: r))) := Sep.rowsSplit (l := []) hS
    have h1' : Sep w0 B w ((rowsTail ei hd2 m2 :: own e (.slice (some a) m2.length c2) (hdV hd2 m2) :: l) ++ rows e ei (.slice A n c) hd m :: r) := h1
    have h2 := Sep.rowsSplit h1'
    have h3 : Sep w0 B w ((rowsTail ei hd m :: rowsTail ei hd2 m2 :: own e (.slice (some a) m2.length c2) (hdV hd2 m2) :: l) ++ own e (.slice A n c) (hdV hd m) :: r) := h2
    obtain ⟨f, ⟨hf, hf2⟩, hfb⟩ := h3.get
    have hb : (n + m2.length) * inf.bytes ≤ 140737488355328 := by
      rw [hby]
      unfold bigR at hl
      omega
    have hf' : w.ownsRow 0 e 1 (.slice A n c) n (hdV hd m) := by rw [hvl, ← hn] at hf; exact hf
    obtain ⟨v', w', hrun, hown, hg, _, hbl⟩ := run_append_own_at (P := P) w 0 t ty e inf _ 1 inf.bytes ht hi hz hs rfl rfl (by omega) (.slice A n c) n _ hf' a m2.length c2 (hdV hd2 m2) (by rw [hvl2]; omega) hcells (hdV_one _ _)
      (by unfold maxLen; unfold bigR at hl; omega) hb (Nat.zero_le _)
    rw [← hdV_app _ _ hlen] at hown
    have hown' : w'.ownsRow 0 e 1 v' (m ++ m2).length (hdV (hd ++ hd2) (m ++ m2)) := by rw [List.length_append, ← hn]; exact hown
    obtain ⟨A', c', rfl, _⟩ := own_formK hown'
    refine ⟨A', c', w', vS_run hrun, ?_⟩
    have h4 : Sep w0 B w' ((rowsTail ei hd m :: rowsTail ei hd2 m2 :: own e (.slice (some a) m2.length c2) (hdV hd2 m2) :: l) ++ own e (.slice A' (m ++ m2).length c') (hdV (hd ++ hd2) (m ++ m2)) :: r) :=
      h3.upd fun f' hf' hb' => ⟨_, ⟨by rw [hdV_length hl2]; exact hown', rfl⟩, by rw [hf'.2]; exact Ex.of_grown hg, (by
        intro k hk
        rw [hf'.2]
        rcases hbl with h | h
        · rw [h] at hk; exact .inl hk
        · rw [h] at hk
          simp at hk
          exact .inr (by omega)), own_blockK hown'⟩
    have h5 : Sep w0 B w' ([rowsTail ei hd m, rowsTail ei hd2 m2] ++ (l ++ own e (.slice A' (m ++ m2).length c') (hdV (hd ++ hd2) (m ++ m2)) :: r)) := Sep.del (l := [rowsTail ei hd m, rowsTail ei hd2 m2]) h4
    have h6 := (Sep.pickN h5 2 [1, 0] (by decide) : Sep w0 B w' (rowsTail ei hd2 m2 :: rowsTail ei hd m :: (l ++ own e (.slice A' (m ++ m2).length c') (hdV (hd ++ hd2) (m ++ m2)) :: r))).tailApp
    refine Sep.join h6 ?_
    rintro f1 f2 ⟨h5, h6⟩ h7 h8
    exact ⟨f2 ++ f1, ⟨hl2, .cons h7 h6 (fun k hk hk' => h8 k hk' hk)⟩, fun k hk => by
      rcases List.mem_append.1 hk with h | h
      · exact .inr h
      · exact .inl h⟩
end
end Go.GL
