/-
  A small library of our own: slices of pointers to structs of the call's own whose fields may be written; what their slices hold is frozen.
-/
import Derived.Test.YtdjjomghggplpaaLibPf
namespace Go.GL
open Go Go.RowKit

/-- The blocks. -/
def blkHP {ρ α : Type} (T : TypeId) (gf : ρ → Nat) (cf : ρ → α → List Value) (raw : List ρ) (m : List α) : List HP := List.zipWith (fun r x => blk (gf r) T (cf r x).toArray) raw m
def prT {ρ α : Type} (T : TypeId) (gf : ρ → Nat) (cf : ρ → α → List Value) (raw : List ρ) (m : List α) : HP where
  at_ w f := SepL w (blkHP T gf cf raw m) f
  loc := fun hk h => h.loc hk
def prTbut {ρ α : Type} (T : TypeId) (gf : ρ → Nat) (cf : ρ → α → List Value) (raw : List ρ) (m : List α) (i : Nat) : HP where
  at_ w f := SepL w ((blkHP T gf cf raw m).eraseIdx i) f
  loc := fun hk h => h.loc hk
/-- The slice of pointers, and the blocks. -/
def prs {ρ α : Type} (F : ρ → List Value) (gf : ρ → Nat) (cf : ρ → α → List Value) (R : HP → ρ → α → Prop) (p : HP) (e T : TypeId) (A : Option Addr) (n c : Nat) (raw : List ρ) (m : List α) : HP where
  at_ w f := SepL w (els F R p e 1 A n c raw m :: blkHP T gf cf raw m) f
  loc := fun hk h => h.loc hk

/-- A block that may be read. -/
def RdB (w0 : World) (B : Nat) (fs : List HP) (g : Nat) (cs : List Value) : Prop := ∀ w, Sep w0 B w fs → ∀ (j : Nat) (v : Value), cs[j]? = some v → w.cell? ⟨g, j, none⟩ = some v

section
variable {P : Program} {w0 w : World} {B : Nat} {l r ps fs : List HP} {t e T : TypeId} {inf : TypeInfo} {ρ α : Type} {F : ρ → List Value} {gf : ρ → Nat} {cf : ρ → α → List Value} {R : HP → ρ → α → Prop} {p p' : HP} {A : Option Addr} {n c : Nat} {raw : List ρ} {m : List α} {rz : ρ} {z : α} {i : Int}

theorem Sep.prsSplit (h : Sep w0 B w (l ++ prs F gf cf R p e T A n c raw m :: r)) : Sep w0 B w (prT T gf cf raw m :: (l ++ els F R p e 1 A n c raw m :: r)) :=
  h.split fun f hs => by
    cases hs with
    | cons h1 h2 h3 =>
      rename_i f1 f2
      exact ⟨f2, f1, h2, h1, fun k hk hk' => h3 k hk' hk, fun k hk => by rcases hk with h | h <;> simp [h]⟩
theorem Sep.prsJoin (h : Sep w0 B w (prT T gf cf raw m :: (l ++ els F R p e 1 A n c raw m :: r))) : Sep w0 B w (l ++ prs F gf cf R p e T A n c raw m :: r) :=
  h.join fun f1 f2 h1 h2 h3 => ⟨f2 ++ f1, .cons h2 h1 (fun k hk hk' => h3 k hk' hk), fun k hk => by rcases List.mem_append.1 hk with h | h <;> simp [h]⟩

theorem Sep.nilPr (h : Sep w0 B w ps) (F : ρ → List Value) (gf : ρ → Nat) (cf : ρ → α → List Value) (R : HP → ρ → α → Prop) (p : HP) (e T : TypeId) : Sep w0 B w (prs F gf cf R p e T none 0 0 [] [] :: ps) := by
  have h1 := h.nilE F R p e 1
  refine Sep.prsJoin (l := []) (h1.add (Ex.refl w) (f := []) (p := prT T gf cf [] []) ?_ (by simp))
  exact .nil
theorem Sep.prsAll (h : Sep w0 B w (l ++ prs F gf cf R p e T A n c raw m :: r)) : PAll R p raw m := Sep.elsAll (l := prT T gf cf raw m :: l) h.prsSplit
theorem Sep.rdPr (h : Sep w0 B w (l ++ prs F gf cf R p e T A n c raw m :: r)) : Rd w w.heap.size A (raw.flatMap F) := Sep.rdE (l := prT T gf cf raw m :: l) h.prsSplit
theorem Sep.lenPr (hF : EncK F 1) (h : Sep w0 B w (l ++ prs F gf cf R p e T A n c raw m :: r)) : n = m.length := Sep.lenE hF (l := prT T gf cf raw m :: l) h.prsSplit
theorem Sep.lenPrr (hF : EncK F 1) (h : Sep w0 B w (l ++ prs F gf cf R p e T A n c raw m :: r)) : n = raw.length := Sep.lenEr hF (l := prT T gf cf raw m :: l) h.prsSplit
theorem Sep.reNPr {n' : Nat} (h : Sep w0 B w (l ++ prs F gf cf R p e T A n c raw m :: r)) (he : n = n') : Sep w0 B w (l ++ prs F gf cf R p e T A n' c raw m :: r) := he ▸ h
theorem Sep.prsMono (hR : RelM R) (hg : PoolLe p p') (h : Sep w0 B w (l ++ prs F gf cf R p e T A n c raw m :: r)) : Sep w0 B w (l ++ prs F gf cf R p' e T A n c raw m :: r) :=
  Sep.prsJoin (Sep.elsMonoM hR hg (l := prT T gf cf raw m :: l) h.prsSplit)

theorem blkHP_get (hl : raw.length = m.length) (rz : ρ) (z : α) (hb : 0 ≤ i ∧ i < (m.length : Int)) : (blkHP T gf cf raw m)[i.toNat]? = some (blk (gf (getd rz raw i)) T (cf (getd rz raw i) (getd z m i)).toArray) := by
  have h1 : i.toNat < m.length := by omega
  unfold blkHP getd
  rw [List.getElem?_zipWith, List.getElem?_eq_getElem h1, List.getElem?_eq_getElem (by omega : i.toNat < raw.length)]
  simp [List.getD_eq_getElem?_getD, List.getElem?_eq_getElem h1, List.getElem?_eq_getElem (by omega : i.toNat < raw.length)]

/-- One block is taken out. -/
theorem Sep.prTake (rz : ρ) (z : α) (h : Sep w0 B w (l ++ prs F gf cf R p e T A n c raw m :: r)) (hb : 0 ≤ i ∧ i < (m.length : Int)) :
    Sep w0 B w (blk (gf (getd rz raw i)) T (cf (getd rz raw i) (getd z m i)).toArray :: ([] ++ prTbut T gf cf raw m i.toNat :: (l ++ els F R p e 1 A n c raw m :: r))) := by
  have hl := h.prsAll.len
  refine Sep.split (l := []) (r := l ++ els F R p e 1 A n c raw m :: r) h.prsSplit fun f hf => ?_
  obtain ⟨h1, h2⟩ := erase_split (blkHP_get (T := T) (gf := gf) (cf := cf) hl rz z hb)
  have hf' : SepL w (blkHP T gf cf raw m) f := hf
  rw [h1] at hf'
  obtain ⟨f1, f2, ha, hb', hd', hm⟩ := hf'.take
  rw [← h2] at hb'
  exact ⟨f1, f2, ha, hb', hd', fun k => (hm k).2⟩
theorem Sep.prCell (rz : ρ) (z : α) (h : Sep w0 B w (l ++ prs F gf cf R p e T A n c raw m :: r)) (hb : 0 ≤ i ∧ i < (m.length : Int)) {g : Nat} {cs : List Value} (hg : gf (getd rz raw i) = g) (hc : cf (getd rz raw i) (getd z m i) = cs) : ∀ (j : Nat) (v : Value), cs[j]? = some v → w.cell? ⟨g, j, none⟩ = some v := by
  subst hg
  subst hc
  intro j v hv
  obtain ⟨f, hf, _⟩ := Sep.get (l := []) (h.prTake rz z hb)
  have h1 : w.heap[gf (getd rz raw i)]? = some (.cells (cf (getd rz raw i) (getd z m i)).toArray T (0, 0)) := hf.1
  simp [World.cell?, h1, hv]

theorem zipWith_set {β γ δ : Type} (f : β → γ → δ) (a : List β) (b : List γ) (k : Nat) (x : γ) (y : β) (hy : a[k]? = some y) : List.zipWith f a (b.set k x) = (List.zipWith f a b).set k (f y x) := by
  apply List.ext_getElem?
  intro j
  rw [List.getElem?_zipWith, List.getElem?_set, List.getElem?_set, List.getElem?_zipWith]
  by_cases hj : k = j
  · subst hj
    rw [hy]
    by_cases hb : k < b.length
    · have hlt := (List.getElem?_eq_some_iff.1 hy).1
      simp [hb]
      omega
    · simp [hb]
      omega
  · simp only [if_neg hj]

/-- It is put back, with other fields. -/
theorem Sep.prPut {i : Int} {x : α} {g : Nat} {ca : Array Value} (h : Sep w0 B w (blk g T ca :: ([] ++ prTbut T gf cf raw m i.toNat :: (l ++ els F R p e 1 A n c raw m :: r)))) (rz : ρ) (hb : 0 ≤ i ∧ i < (m.length : Int)) (hg : gf (getd rz raw i) = g) (hc : (cf (getd rz raw i) x).toArray = ca) (hR : R p (getd rz raw i) x) :
    Sep w0 B w (l ++ prs F gf cf R p e T A n c raw (m.set i.toNat x) :: r) := by
  have hall : PAll R p raw m := Sep.elsAll (l := blk g T ca :: prTbut T gf cf raw m i.toNat :: l) h
  have hl := hall.len
  have hlt : i.toNat < raw.length := by omega
  have hraw : raw[i.toNat]? = some (getd rz raw i) := by
    unfold getd
    rw [List.getD_eq_getElem?_getD, List.getElem?_eq_getElem hlt]; rfl
  subst hg
  subst hc
  have hset : blkHP T gf cf raw (m.set i.toNat x) = (blkHP T gf cf raw m).set i.toNat (blk (gf (getd rz raw i)) T (cf (getd rz raw i) x).toArray) := zipWith_set _ _ _ _ _ _ hraw
  have hk : i.toNat < (blkHP T gf cf raw m).length := by unfold blkHP; rw [List.length_zipWith]; omega
  have h2 : Sep w0 B w (prT T gf cf raw (m.set i.toNat x) :: (l ++ els F R p e 1 A n c raw m :: r)) := by
    refine Sep.join (l := []) (r := l ++ els F R p e 1 A n c raw m :: r) h fun f1 f2 h1 h2 h3 => ?_
    have h2' : SepL w ((blkHP T gf cf raw m).eraseIdx i.toNat) f2 := h2
    rw [List.eraseIdx_eq_take_drop_succ] at h2'
    obtain ⟨z, hz, hm⟩ := SepL.ins (p := blk (gf (getd rz raw i)) T (cf (getd rz raw i) x).toArray) h1 h2' (fun k hk hk' => h3 k hk hk')
    refine ⟨z, ?_, fun k => (hm k).1⟩
    show SepL w (blkHP T gf cf raw (m.set i.toNat x)) z
    rw [hset, List.set_eq_take_append_cons_drop, if_pos hk]
    exact hz
  have hset2 : PAll R p raw (m.set i.toNat x) := by
    have := hall.set hR i.toNat
    rwa [show raw.set i.toNat (getd rz raw i) = raw from by
      apply List.ext_getElem?
      intro j
      rw [List.getElem?_set]
      by_cases hj : i.toNat = j
      · subst hj; simp only [if_true, hlt]; exact hraw.symm
      · simp [hj]] at this
  refine Sep.prsJoin ?_
  exact Sep.ownEls (l := prT T gf cf raw (m.set i.toNat x) :: l) (Sep.elsOwn (l := prT T gf cf raw (m.set i.toNat x) :: l) h2) hset2

/-- A field of an element written. -/
theorem run_setPr {j : Nat} {u : Value} {x : α} {g : Nat} (rz : ρ) (z : α) (hS : Sep w0 B w (l ++ prs F gf cf R p e T A n c raw m :: r)) (hb : 0 ≤ i ∧ i < (m.length : Int)) (hg : gf (getd rz raw i) = g) (hi : P.info? t = some inf) (hs : inf.size = 1) (h1 : u.oneCell' = true) (hj : j < (cf (getd rz raw i) (getd z m i)).toArray.size)
    (hc : (cf (getd rz raw i) x).toArray = (cf (getd rz raw i) (getd z m i)).toArray.setIfInBounds j u) (hR : R p (getd rz raw i) x) :
    ∃ w', (uS (Instr.storeAt t (.pointer (some ⟨g, j, none⟩)) u)).run P w = .ok .skip w' ∧ Sep w0 B w' (l ++ prs F gf cf R p e T A n c raw (m.set i.toNat x) :: r) := by
  subst hg
  obtain ⟨w', hrun, h2⟩ := run_put (l := []) (hS.prTake rz z hb) hi hs h1 hj
  exact ⟨w', hrun, Sep.prPut h2 rz hb rfl hc hR⟩

/-- append(l, p): p's block joins. -/
theorem run_appPr {r0 : ρ} {x0 : α} {g : Nat} {ca : Array Value} {A2 : Option Addr} {c2 : Nat} {zv : Value} (hF : EncK F 1) (hS : Sep w0 B w (blk g T ca :: (l ++ prs F gf cf R p e T A n c raw m :: r))) (hg : gf r0 = g) (hc : (cf r0 x0).toArray = ca) (hR : R p r0 x0) (hr : Rd w w.heap.size A2 (F r0)) (ty : TypeId)
    (ht : P.underlying t = some (.slice e)) (hi : P.info? e = some inf) (hz : inf.zero = some zv) (hs : inf.size = 1) (hzs : zv.cells.size = 1) (hby : inf.bytes ≤ 128) (hl : (n : Int) + 1 ≤ bigK) :
    ∃ A' c' w', (vS (Builtin.append_ #[t, t] ty #[.slice A n c, .slice A2 1 c2])).run P w = .ok (.value (.slice A' (m ++ [x0]).length c')) w' ∧ Sep w0 B w' (l ++ prs F gf cf R p e T A' (m ++ [x0]).length c' (raw ++ [r0]) (m ++ [x0]) :: r) := by
  subst hg
  subst hc
  have hlen := (Sep.prsAll (l := blk (gf r0) T (cf r0 x0).toArray :: l) hS).len
  have h1 := Sep.prsSplit (l := blk (gf r0) T (cf r0 x0).toArray :: l) hS
  obtain ⟨A', c', w', hrun, h2⟩ := run_appE (l := prT T gf cf raw m :: blk (gf r0) T (cf r0 x0).toArray :: l) (ys := [r0]) (my := [x0]) hF h1 (by simpa using hr) (PAll.one hR) rfl ty ht hi hz hs hzs hby hl
  refine ⟨A', c', w', hrun, Sep.prsJoin ?_⟩
  have h3 : Sep w0 B w' (prT T gf cf raw m :: ([] ++ blk (gf r0) T (cf r0 x0).toArray :: (l ++ els F R p e 1 A' (m ++ [x0]).length c' (raw ++ [r0]) (m ++ [x0]) :: r))) := h2
  refine Sep.join (l := []) (p := prT T gf cf (raw ++ [r0]) (m ++ [x0])) (r := l ++ els F R p e 1 A' (m ++ [x0]).length c' (raw ++ [r0]) (m ++ [x0]) :: r) h3 fun f1 f2 q1 q2 q3 => ?_
  have q1' : SepL w' (blkHP T gf cf raw m) f1 := q1
  have q2' := SepL.cons q2 SepL.nil (by simp)
  obtain ⟨zz, hz', hm'⟩ := SepL.append q1' q2' (fun k hk hk' => q3 k hk (by simpa using hk'))
  refine ⟨zz, ?_, fun k hk => ?_⟩
  · show SepL w' (blkHP T gf cf (raw ++ [r0]) (m ++ [x0])) zz
    have : blkHP T gf cf (raw ++ [r0]) (m ++ [x0]) = blkHP T gf cf raw m ++ [blk (gf r0) T (cf r0 x0).toArray] := by
      unfold blkHP
      rw [List.zipWith_append hlen]; rfl
    rw [this]; exact hz'
  · rcases (hm' k).1 hk with h | h
    · exact .inl h
    · exact .inr (by simpa using h)
end
end Go.GL
