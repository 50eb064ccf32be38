/-
  Plain law for hall's books: Book, Open and Add, as the program and as the document make them.
-/
import Derived.Test.YtlpaklmfgldkoaaHBa
namespace Go.Proofs.Ytlpaklmfgldkoaa
open Go Go.GL

/-- The book of lines, from what is there on. -/
def bkf : List (List UInt8) → List Int → (List Int × Int)
  | [], b => (b, 0)
  | x :: r, b => if 4000 < (b ++ ent x).length then ([], 2) else bkf r (b ++ ent x)

/-- What a loop of the book comes to. -/
def bkr : Fl (List Int) (List Int × Int) → List Int × Int
  | .go b => (b, 0)
  | .ret x => x

theorem drop_at {α : Type} {l : List α} {k : Nat} (hk : k < l.length) : l.drop k = l[k] :: l.drop (k + 1) := List.drop_eq_getElem_cons hk

theorem bk_loop {l : List (List UInt8)}
    {step : (List Int × Int) → Option (St (List Int × Int) (Fl (List Int) (List Int × Int)))}
    (h1 : ∀ (k : Nat) (b : List Int) (x : List UInt8), l[k]? = some x → b.length ≤ 4000 → step (b, (k : Int)) = if 4000 < (b ++ ent x).length then some (.done (.ret ([], 2))) else some (.next (b ++ ent x, (k : Int) + 1)))
    (h2 : ∀ b : List Int, step (b, (l.length : Int)) = some (.done (.go b))) :
    ∃ r, loop step ([72, 65, 76, 76], 0) = some r ∧ bkr r = bkf l [72, 65, 76, 76] := by
  refine count_loop (mk := fun (b : List Int) k => (b, (k : Int))) (I := fun k b => b.length ≤ 4000 ∧ bkf (l.drop k) b = bkf l [72, 65, 76, 76]) (Post := fun r => bkr r = bkf l [72, 65, 76, 76]) l.length [72, 65, 76, 76] ⟨by decide, rfl⟩ (fun k b hk hI => ?_) (fun b hI => ?_)
  · obtain ⟨hbl, hI⟩ := hI
    have hx : l[k]? = some l[k] := List.getElem?_eq_getElem hk
    rw [h1 k b _ hx hbl]
    rw [drop_at hk] at hI
    simp only [bkf] at hI
    by_cases hc : 4000 < (b ++ ent l[k]).length
    · rw [if_pos hc] at hI ⊢
      exact .inr ⟨_, rfl, hI⟩
    · rw [if_neg hc] at hI ⊢
      exact .inl ⟨_, rfl, by omega, hI⟩
  · obtain ⟨_, hI⟩ := hI
    rw [List.drop_length] at hI
    exact ⟨_, h2 b, hI⟩

theorem getd_at {α : Type} {z : α} {l : List α} {k : Nat} {x : α} (h : l[k]? = some x) : getd z l (k : Int) = x := getd_some h

theorem book_p {l : List (List UInt8)} (hl : l.length ≤ 8796093022208) :
    hall_Book_m l = some (if l.any (fun x => decide (255 < x.length)) then ([], 1) else bkf l [72, 65, 76, 76]) ∧ gameroomref_BookOf_m l = some (if l.any (fun x => decide (255 < x.length)) then ([], 1) else bkf l [72, 65, 76, 76]) := by
  have e1 : hall_Book_L1 l = gameroomref_BookOf_L1 l := rfl
  have hs : loop (hall_Book_L1 l) 0 = some (match l.findIdx? (fun x => decide (255 < x.length)) with | some _ => (Fl.ret (([] : List Int), 1) : Fl Unit (List Int × Int)) | none => Fl.go ()) := by
    refine search_loop (l := l) (fun x => decide (255 < x.length)) (fun _ => (Fl.ret (([] : List Int), 1) : Fl Unit (List Int × Int))) (Fl.go ()) (fun i x hx hp => ?_) (fun i x hx hp => ?_) ?_
    · have hb := idx_bd hx
      simp only [hall_Book_L1, hall_Book_J2]
      rw [if_pos (by simpa using hb.2), asrt_pos hb, getd_at hx, if_pos (by have h9 := of_decide_eq_true hp; simp only [decide_eq_true_eq]; omega)]
    · have hb := idx_bd hx
      simp only [hall_Book_L1, hall_Book_J2, hall_Book_J3]
      rw [if_pos (by simpa using hb.2), asrt_pos hb, getd_at hx, if_neg (by have h9 := of_decide_eq_false hp; simp only [decide_eq_true_eq]; omega), w64_of (by omega)]
    · simp only [hall_Book_L1]
      rw [if_neg (by simp)]
  unfold hall_Book_m gameroomref_BookOf_m
  rw [← e1, hs]
  simp only [Option.bind_some]
  by_cases ha : l.any (fun x => decide (255 < x.length)) = true
  · rw [if_pos ha]
    have : (l.findIdx? (fun x => decide (255 < x.length))).isSome = true := by rw [List.findIdx?_isSome]; exact ha
    obtain ⟨i, hi⟩ := Option.isSome_iff_exists.1 this
    rw [hi]
    exact ⟨rfl, rfl⟩
  · rw [if_neg ha]
    have : l.findIdx? (fun x => decide (255 < x.length)) = none := by
      cases h : l.findIdx? (fun x => decide (255 < x.length)) with
      | none => rfl
      | some i => exact absurd (by rw [← List.findIdx?_isSome, h]; rfl) ha
    rw [this]
    have hb : ∀ x ∈ l, x.length ≤ 255 := fun x hx => by
      have h9 : ¬ (255 < x.length) := fun h => ha (List.any_eq_true.2 ⟨x, hx, by simpa using h⟩)
      omega
    constructor
    · obtain ⟨r, hr, hp⟩ := bk_loop (step := hall_Book_L2 l) (fun k b x hx hbl => by
        have hbd := idx_bd hx
        have hxm := hb x (List.mem_of_getElem? hx)
        have hB := bigB_of (n := (b.length : Int)) (k := ((ent x).length : Int)) (by rw [ent_length]; omega)
        simp only [hall_Book_L2, hall_Book_J5, hall_Book_J6]
        rw [if_pos (by simpa using hbd.2), asrt_pos hbd, getd_at hx, entry_p hxm, Option.bind_some, asrt_pos hB, w64_of (by omega)]
        by_cases hc : 4000 < (b ++ ent x).length
        · rw [if_pos hc, if_pos (by simp only [decide_eq_true_eq]; omega)]
        · rw [if_neg hc, if_neg (by simp only [decide_eq_true_eq]; omega)]) (fun b => by
        simp only [hall_Book_L2]
        rw [if_neg (by simp)])
      simp only [hall_Book_K1, hall_Book_J1]
      rw [hr, Option.bind_some, ← hp]
      cases r with
      | go b => rfl
      | ret x => rfl
    · obtain ⟨r, hr, hp⟩ := bk_loop (step := gameroomref_BookOf_L2 l) (fun k b x hx hbl => by
        have hbd := idx_bd hx
        have hxm := hb x (List.mem_of_getElem? hx)
        have hB := bigB_of (n := (b.length : Int)) (k := ((ent x).length : Int)) (by rw [ent_length]; omega)
        simp only [gameroomref_BookOf_L2, gameroomref_BookOf_J5, gameroomref_BookOf_J6]
        rw [if_pos (by simpa using hbd.2), asrt_pos hbd, getd_at hx, entry_d hxm, Option.bind_some, asrt_pos hB, w64_of (by omega)]
        by_cases hc : 4000 < (b ++ ent x).length
        · rw [if_pos hc, if_pos (by simp only [decide_eq_true_eq]; omega)]
        · rw [if_neg hc, if_neg (by simp only [decide_eq_true_eq]; omega)]) (fun b => by
        simp only [gameroomref_BookOf_L2]
        rw [if_neg (by simp)])
      simp only [gameroomref_BookOf_K1, gameroomref_BookOf_J1]
      rw [hr, Option.bind_some, ← hp]
      cases r with
      | go b => rfl
      | ret x => rfl

/-! ### Open -/

/-- Two loops whose steps agree. -/
theorem loops_agree {S R : Type} {s1 s2 : S → Option (St S R)} {Post : R → Prop} (I : S → Prop) (μ : S → Nat)
    (h : ∀ s, I s → (∃ r, s1 s = some (.done r) ∧ s2 s = some (.done r) ∧ Post r) ∨ ∃ s', s1 s = some (.next s') ∧ s2 s = some (.next s') ∧ I s' ∧ μ s' < μ s) :
    ∀ (n : Nat) s, μ s ≤ n → I s → ∃ r, loop s1 s = some r ∧ loop s2 s = some r ∧ Post r := by
  intro n
  induction n with
  | zero =>
    intro s hn hI
    rcases h s hI with ⟨r, a, b, c⟩ | ⟨s', _, _, _, hm⟩
    · exact ⟨r, loop_done a, loop_done b, c⟩
    · omega
  | succ n ih =>
    intro s hn hI
    rcases h s hI with ⟨r, a, b, c⟩ | ⟨s', a, b, c, hm⟩
    · exact ⟨r, loop_done a, loop_done b, c⟩
    · obtain ⟨r, d, e, f⟩ := ih s' (by omega) c
      exact ⟨r, loop_next' a d, loop_next' b e, f⟩

def okB (b : List Int) : Prop := ∀ x ∈ b, 0 ≤ x ∧ x < 256

theorem okB_get {b : List Int} (h : okB b) {k : Int} (h0 : 0 ≤ k) (h1 : k < b.length) : 0 ≤ getd 0 b k ∧ getd 0 b k < 256 := by
  have hk : k.toNat < b.length := by omega
  unfold getd
  rw [List.getD_eq_getElem?_getD, List.getElem?_eq_getElem hk]
  exact h _ (List.getElem_mem hk)

theorem b8_length (m : List Int) : (b8 m).length = m.length := by simp [b8]

theorem ofNat_inj {x y : Int} (hx : 0 ≤ x ∧ x < 256) (hy : 0 ≤ y ∧ y < 256) (h : UInt8.ofNat x.toNat = UInt8.ofNat y.toNat) : x = y := by
  have := congrArg UInt8.toNat h
  simp [UInt8.toNat_ofNat'] at this
  omega

/-- The second byte tells the length again. -/
theorem second {b line : List Int} {n k : Int} (hb : okB b) (h0 : 0 ≤ n) (hk : k = getd 0 b n) (hl : (line.length : Int) = k) (h1 : n + 4 + k ≤ b.length) (h2 : getd 0 b (n + 1) ≠ 255 - k) : b8 (cut b n (n + 4 + k)) ≠ b8 (ent (b8 line)) := by
  intro h
  have hk2 := okB_get hb h0 (show n < b.length by
    have := okB_get (k := n) hb h0
    rcases Int.lt_or_le n b.length with h9 | h9
    · exact h9
    · have : getd (0 : Int) b n = 0 := by
        unfold getd
        rw [List.getD_eq_getElem?_getD, List.getElem?_eq_none (by omega)]
        rfl
      omega)
  have h3 := congrArg (fun l => l[1]?) h
  have hk3 := okB_get hb (k := n + 1) (by omega) (by omega)
  have e1 : (b8 (cut b n (n + 4 + k)))[1]? = some (UInt8.ofNat (getd 0 b (n + 1)).toNat) := by
    unfold b8 cut
    rw [List.getElem?_map, List.getElem?_take, if_pos (by omega), List.getElem?_drop, List.getElem?_eq_getElem (by omega)]
    unfold getd
    rw [List.getD_eq_getElem?_getD, List.getElem?_eq_getElem (by omega)]
    have e : n.toNat + 1 = (n + 1).toNat := by omega
    simp [e]
  have e2 : (b8 (ent (b8 line)))[1]? = some (UInt8.ofNat (255 - k).toNat) := by
    have e3 : (ent (b8 line))[1]? = some (IntKind.wrap .u8 (w64 (255 - ((b8 line).length : Int)))) := rfl
    unfold b8 at e3 ⊢
    rw [List.getElem?_map, e3]
    simp only [Option.map_some, Option.some.injEq]
    rw [List.length_map, hl, w64_of (by omega)]
    have : IntKind.wrap .u8 (255 - k) = 255 - k := by
      simp only [IntKind.wrap, IntKind.signed, IntKind.bits]
      simp
      omega
    rw [this]
  rw [e1, e2] at h3
  exact h2 (ofNat_inj hk3 (by omega) (Option.some.inj h3))

theorem beq_sym (a b : List UInt8) : (a == b) = (b == a) := by
  rw [Bool.eq_iff_iff]
  simp only [beq_iff_eq]
  exact eq_comm

theorem open_loop {b : List Int} (hb : okB b) (hl : b.length ≤ 4000) (h4 : 4 ≤ b.length) :
    ∃ r, loop (hall_Open_L1 b) (([] : List (List UInt8)), 4) = some r ∧ loop (gameroomref_OpenOf_L1 b) (([] : List (List UInt8)), 4) = some r ∧ (4 ≤ r.2 ∧ r.2 ≤ b.length ∧ (r.1.length : Int) ≤ r.2) := by
  refine loops_agree (Post := fun (r : List (List UInt8) × Int) => 4 ≤ r.2 ∧ r.2 ≤ b.length ∧ (r.1.length : Int) ≤ r.2) (I := fun (s : List (List UInt8) × Int) => 4 ≤ s.2 ∧ s.2 ≤ b.length ∧ (s.1.length : Int) ≤ s.2) (μ := fun (s : List (List UInt8) × Int) => ((b.length : Int) - s.2).toNat) ?_ 5000 _ (by simp; omega) (by simp; omega)
  rintro ⟨l, n⟩ ⟨h1, h2, h3⟩
  simp only at h1 h2 h3
  by_cases hn : n < b.length
  · have hg := okB_get hb (k := n) (by omega) hn
    generalize hk : getd (0 : Int) b n = k at hg
    by_cases hc : (b.length : Int) < n + 4 + k
    · refine .inl ⟨(l, n), ?_, ?_, h1, h2, h3⟩
      · simp only [hall_Open_L1]
        by_cases h5 : n + 4 ≤ b.length
        · have hg2 := okB_get hb (k := n + 1) (by omega) (by omega)
          rw [if_pos (by simp only [decide_eq_true_eq]; rw [w64_of (by omega)]; omega)]
          unfold hall_Open_J3
          rw [hk, w64_of (x := n + 4) (by omega), w64_of (x := n + 1) (by omega), w64_of (x := k) (by omega), w64_of (x := n + 4 + k) (by omega), asrt_pos (by omega), asrt_pos (by omega), if_pos (by simp only [Bool.or_eq_true, decide_eq_true_eq]; exact .inr hc)]
        · rw [if_neg (by simp only [decide_eq_true_eq]; rw [w64_of (by omega)]; omega)]
      · simp only [gameroomref_OpenOf_L1]
        rw [if_pos (by simpa using hn)]
        unfold gameroomref_OpenOf_J5
        rw [hk, w64_of (x := k) (by omega), w64_of (x := k + 4) (by omega), w64_of (x := n + (k + 4)) (by omega), asrt_pos (by omega), if_pos (by simp only [decide_eq_true_eq]; omega)]
    · have hg2 := okB_get hb (k := n + 1) (by omega) (by omega)
      have hlen : ((b8 (cut b (n + 2) (n + 2 + k))).length : Int) = k := by rw [b8_length, cut_length (by omega) (by omega) (by omega)]; omega
      have hlen' : ((cut b (n + 2) (n + 2 + k)).length : Int) = k := by rw [cut_length (by omega) (by omega) (by omega)]; omega
      have hD : gameroomref_OpenOf_L1 b (l, n) = if b8 (cut b n (n + 4 + k)) = b8 (ent (b8 (cut b (n + 2) (n + 2 + k)))) then some (.next (l ++ [b8 (cut b (n + 2) (n + 2 + k))], n + 4 + k)) else some (.done (l, n)) := by
        have hP : (l.length : Int) + 1 ≤ bigP := by unfold bigP; omega
        simp only [gameroomref_OpenOf_L1]
        rw [if_pos (by simpa using hn)]
        unfold gameroomref_OpenOf_J5 gameroomref_OpenOf_J6 gameroomref_OpenOf_J8 gameroomref_OpenOf_J7
        rw [hk, w64_of (x := k) (by omega), w64_of (x := k + 4) (by omega), w64_of (x := n + (k + 4)) (by omega), w64_of (x := n + 2) (by omega), w64_of (x := n + (k + 4) - 2) (by omega), asrt_pos (by omega), if_neg (by simp only [decide_eq_true_eq]; omega), asrt_pos (by omega), asrt_pos (by omega)]
        rw [show n + (k + 4) - 2 = n + 2 + k by omega, show n + (k + 4) = n + 4 + k by omega, entry_d (by omega), Option.bind_some]
        by_cases he : b8 (cut b n (n + 4 + k)) = b8 (ent (b8 (cut b (n + 2) (n + 2 + k))))
        · rw [if_pos he, if_neg (by simp [he]), asrt_pos hP]
        · rw [if_neg he, if_pos (by simp [he])]
      have hP' : hall_Open_L1 b (l, n) = if b8 (cut b n (n + 4 + k)) = b8 (ent (b8 (cut b (n + 2) (n + 2 + k)))) then some (.next (l ++ [b8 (cut b (n + 2) (n + 2 + k))], n + 4 + k)) else some (.done (l, n)) := by
        have hP : (l.length : Int) + 1 ≤ bigP := by unfold bigP; omega
        simp only [hall_Open_L1]
        rw [if_pos (by simp only [decide_eq_true_eq]; rw [w64_of (by omega)]; omega)]
        unfold hall_Open_J3
        rw [hk, w64_of (x := n + 4) (by omega), w64_of (x := n + 1) (by omega), w64_of (x := k) (by omega), w64_of (x := n + 4 + k) (by omega), w64_of (x := 255 - k) (by omega), w64_of (x := getd 0 b (n + 1)) (by omega), asrt_pos (by omega), asrt_pos (by omega)]
        by_cases h6 : getd 0 b (n + 1) = 255 - k
        · rw [if_neg (by simp only [Bool.or_eq_true, decide_eq_true_eq, bne_iff_ne, ne_eq]; omega)]
          unfold hall_Open_J4 hall_Open_J6 hall_Open_J5
          rw [hk, w64_of (x := n + 4) (by omega), w64_of (x := n + 2) (by omega), w64_of (x := k) (by omega), w64_of (x := n + 4 + k) (by omega), w64_of (x := n + 2 + k) (by omega), w64_of (x := 4 + k) (by omega), asrt_pos (by omega), asrt_pos (by omega), entry_p (by omega), Option.bind_some]
          by_cases he : b8 (cut b n (n + 4 + k)) = b8 (ent (b8 (cut b (n + 2) (n + 2 + k))))
          · rw [if_pos he, if_neg (by simp [he]), asrt_pos hP, show n + (4 + k) = n + 4 + k by omega, w64_of (x := n + 4 + k) (by omega)]
          · rw [if_neg he, if_pos (by rw [beq_sym]; simp [he])]
        · rw [if_pos (by simp only [Bool.or_eq_true, bne_iff_ne, ne_eq]; exact .inl h6), if_neg (second hb (by omega) hk.symm hlen' (by omega) h6)]
      rw [hD, hP']
      split
      · exact .inr ⟨_, rfl, rfl, ⟨by simp only; omega, by simp only; omega, by simp only [List.length_append, List.length_singleton]; omega⟩, by simp only; omega⟩
      · exact .inl ⟨_, rfl, rfl, h1, h2, h3⟩
  · refine .inl ⟨(l, n), ?_, ?_, h1, h2, h3⟩
    · simp only [hall_Open_L1]
      rw [if_neg (by simp only [decide_eq_true_eq]; rw [w64_of (by omega)]; omega)]
    · simp only [gameroomref_OpenOf_L1]
      rw [if_neg (by simpa using hn)]

theorem b8_cut (b : List Int) (lo hi : Int) : b8 (cut b lo hi) = cut (b8 b) lo hi := by simp [b8, cut, List.map_take, List.map_drop]

/-- Both open a book alike. -/
theorem open_p {b : List Int} (hb : okB b) : ∃ r, hall_Open_m b = some r ∧ gameroomref_OpenOf_m b = some r ∧ r.1.length ≤ 4000 ∧ (r.2.2 = 0 → 4 ≤ r.2.1 ∧ r.2.1 ≤ b.length ∧ b.length ≤ 4000) := by
  unfold hall_Open_m gameroomref_OpenOf_m
  by_cases hl : 4000 < (b.length : Int)
  · rw [if_pos (by simpa using hl), if_pos (by simpa using hl)]
    exact ⟨_, rfl, rfl, by simp, fun h => by simp at h⟩
  · rw [if_neg (by simpa using hl), if_neg (by simpa using hl)]
    unfold strings_HasPrefix_m stringslite_HasPrefix_m gameroomref_OpenOf_J1 gameroomref_OpenOf_J3
    rw [b8_length, show (([72, 65, 76, 76] : List UInt8).length : Int) = 4 from rfl]
    by_cases h4 : (b.length : Int) < 4
    · have h9 : ¬ (4 : Int) ≤ b.length := by omega
      rw [asrt_pos (by simp [h9]), asrt_pos (by simp [h4]), Option.bind_some, Option.bind_some, if_pos (by simp [h9]), if_pos (by simpa using h4), if_pos (by simp [h4])]
      exact ⟨_, rfl, rfl, by simp, fun h => by simp at h⟩
    · have h9 : (4 : Int) ≤ b.length := by omega
      rw [asrt_pos (by simp only [decide_eq_true_eq]; omega), asrt_pos (by simp only [decide_eq_false_iff_not]; omega), Option.bind_some, Option.bind_some, b8_cut]
      by_cases hp : cut (b8 b) 0 4 = [72, 65, 76, 76]
      · obtain ⟨r, h5, h6, h7⟩ := open_loop hb (by omega) (by omega)
        rw [if_neg (by simp [hp, h9]), if_neg (by simpa using h4), if_neg (by simp [hp, h4])]
        unfold hall_Open_J1 gameroomref_OpenOf_J2
        rw [h5, h6]
        exact ⟨(r.1, r.2, 0), rfl, rfl, by simp only; omega, fun _ => ⟨h7.1, h7.2.1, by omega⟩⟩
      · rw [if_pos (by simp [hp]), if_neg (by simpa using h4), if_pos (by simp [hp])]
        exact ⟨_, rfl, rfl, by simp, fun h => by simp at h⟩
end Go.Proofs.Ytlpaklmfgldkoaa
