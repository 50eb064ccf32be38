/-
  Lines of pictures: how many ways there are, plainly; the program's count.
-/
import Derived.Test.YtdjjomghggplpaaNNP
import Derived.Test.YtdjjomghggplpaaLibY
import Derived.Test.YtdjjomghggplpaaLibT
namespace Go.Proofs.Ytdjjomghggplpaa
open Go Go.GL

/-- Can a block of so many lie at the beginning? -/
def fitL (L : Nat) (s : List Int) : Bool := decide (L ≤ s.length) && (s.take L).all (fun x => x != 0) && (s[L]? != some 1)
/-- No block is left. -/
def Zw : List Int → Nat
  | [] => 1
  | c :: r => if c = 1 then 0 else Zw r
def Wc (L : Nat) (g : List Int → Nat) : List Int → Nat
  | [] => 0
  | c :: r => (if c = 1 then 0 else Wc L g r) + (if fitL L (c :: r) = true then g (r.drop L) else 0)
/-- How many ways. -/
def Ww : List Int → List Int → Nat
  | [] => Zw
  | L :: cl => Wc L.toNat (Ww cl)
def Fc (L : Nat) (g : List Int → Nat) (h : List Int → Nat → Nat) : List Int → Nat → Nat
  | [], _ => 0
  | c :: r, i => (if c = 1 then 0 else match i with | 0 => 0 | i + 1 => Fc L g h r i) + (if fitL L (c :: r) = true then (if i < L then g (r.drop L) else if i = L then 0 else h (r.drop L) (i - L - 1)) else 0)
/-- In how many ways a place is filled. -/
def Fw : List Int → List Int → Nat → Nat
  | [] => fun _ _ => 0
  | L :: cl => Fc L.toNat (Ww cl) (Fw cl)

theorem Zw_one : ∀ (s : List Int) (i : Nat), i < s.length → Zw (s.set i 1) = 0
  | [], i, h => by simp at h
  | c :: r, 0, _ => by simp [Zw]
  | c :: r, i + 1, h => by
    have ih := Zw_one r i (by simpa using h)
    simp [Zw, ih]

theorem fitL_set {L : Nat} {s : List Int} {i : Nat} (hi : i < s.length) (h0 : s[i]? ≠ some 0) (hne : i ≠ L) : fitL L (s.set i 1) = fitL L s := by
  unfold fitL
  rw [List.length_set]
  have e1 : (s.set i 1)[L]? = s[L]? := by rw [List.getElem?_set_ne hne]
  rw [e1]
  congr 2
  rw [Bool.eq_iff_iff, List.all_eq_true, List.all_eq_true]
  have hs : s[i]? = some s[i] := List.getElem?_eq_getElem hi
  constructor
  · intro h x hx
    obtain ⟨j, hj⟩ := List.mem_iff_getElem?.1 hx
    rw [List.getElem?_take] at hj
    split at hj
    · rename_i hjL
      by_cases e : j = i
      · subst e
        rw [hj] at h0
        simp only [bne_iff_ne, ne_eq]
        exact fun z => h0 (by rw [z])
      · refine h x (List.mem_iff_getElem?.2 ⟨j, ?_⟩)
        rw [List.getElem?_take, if_pos hjL, List.getElem?_set_ne (fun z => e z.symm), hj]
    · cases hj
  · intro h x hx
    obtain ⟨j, hj⟩ := List.mem_iff_getElem?.1 hx
    rw [List.getElem?_take] at hj
    split at hj
    · rename_i hjL
      by_cases e : i = j
      · subst e
        rw [List.getElem?_set_self hi] at hj
        cases hj
        decide
      · rw [List.getElem?_set_ne e] at hj
        refine h x (List.mem_iff_getElem?.2 ⟨j, ?_⟩)
        rw [List.getElem?_take, if_pos hjL, hj]
    · cases hj

theorem fitL_at {L : Nat} {s : List Int} (hi : L < s.length) : fitL L (s.set L 1) = false := by
  unfold fitL
  rw [List.getElem?_set_self hi]
  simp

theorem fitL_zero {L : Nat} {s : List Int} {i : Nat} (h0 : s[i]? = some 0) (hi : i < L) : fitL L s = false := by
  unfold fitL
  have : (s.take L).all (fun x => x != 0) = false := by
    rw [List.all_eq_false]
    refine ⟨0, List.mem_iff_getElem?.2 ⟨i, ?_⟩, by decide⟩
    rw [List.getElem?_take, if_pos hi, h0]
  rw [this]; simp

/-- A place that may be filled: as many ways as if it were. -/
theorem Fc_set {L : Nat} (hL : 1 ≤ L) {g : List Int → Nat} {h : List Int → Nat → Nat} (hh : ∀ (s : List Int) (i : Nat), i < s.length → s[i]? ≠ some 0 → h s i = g (s.set i 1)) :
    ∀ (s : List Int) (i : Nat), i < s.length → s[i]? ≠ some 0 → Fc L g h s i = Wc L g (s.set i 1)
  | [], i, hi, _ => by simp at hi
  | c :: r, 0, hi, h0 => by
    have hf := fitL_set (L := L) (s := c :: r) (i := 0) hi h0 (by omega)
    rw [List.set_cons_zero] at hf ⊢
    unfold Fc Wc
    rw [hf, if_pos rfl, if_pos (show 0 < L by omega)]
    split <;> rfl
  | c :: r, i + 1, hi, h0 => by
    have hi' : i < r.length := by simpa using hi
    have h0' : r[i]? ≠ some 0 := by simpa using h0
    have ih := Fc_set hL hh r i hi' h0'
    rw [List.set_cons_succ]
    unfold Fc Wc
    dsimp only
    rw [ih]
    congr 1
    by_cases e1 : i + 1 = L
    · have hf := fitL_at (L := L) (s := c :: r) (by rw [← e1]; exact hi)
      rw [← e1, List.set_cons_succ, e1] at hf
      rw [hf, if_neg (show ¬ i + 1 < L by omega), if_pos e1]
      split <;> rfl
    · have hf := fitL_set (L := L) (s := c :: r) (i := i + 1) hi h0 e1
      rw [List.set_cons_succ] at hf
      rw [hf]
      by_cases e2 : i + 1 < L
      · rw [if_pos e2, List.drop_set_of_lt (by omega)]
      · have e3 : (r.set i 1).drop L = (r.drop L).set (i - L) 1 := by
          rw [List.drop_set, if_neg (by omega)]
        rw [if_neg e2, if_neg e1, e3, show i + 1 - L - 1 = i - L by omega, hh (r.drop L) (i - L) (by rw [List.length_drop]; omega) (by rw [List.getElem?_drop, show L + (i - L) = i by omega]; exact h0')]

theorem Fc_none {L : Nat} (hL : 1 ≤ L) {g : List Int → Nat} {h : List Int → Nat → Nat} (hh : ∀ (s : List Int) (i : Nat), s[i]? = some 0 → h s i = 0) :
    ∀ (s : List Int) (i : Nat), s[i]? = some 0 → Fc L g h s i = 0
  | [], i, h0 => by simp at h0
  | c :: r, 0, h0 => by
    have hf := fitL_zero (L := L) (s := c :: r) h0 (by omega)
    unfold Fc
    rw [hf]; simp
  | c :: r, i + 1, h0 => by
    have h0' : r[i]? = some 0 := by simpa using h0
    have ih := Fc_none (g := g) hL hh r i h0'
    unfold Fc
    dsimp only
    rw [ih]
    by_cases e1 : i + 1 < L
    · rw [fitL_zero h0 e1]; simp
    · by_cases e2 : i + 1 = L
      · rw [if_neg e1, if_pos e2]; simp
      · rw [if_neg e1, if_neg e2, hh (r.drop L) (i + 1 - L - 1) (by rw [List.getElem?_drop, show L + (i + 1 - L - 1) = i by omega]; exact h0')]; simp

def okC (cl : List Int) : Prop := ∀ x ∈ cl, 1 ≤ x ∧ x ≤ 20

theorem Fw_set : ∀ (cl : List Int), okC cl → ∀ (s : List Int) (i : Nat), i < s.length → s[i]? ≠ some 0 → Fw cl s i = Ww cl (s.set i 1)
  | [], _, s, i, hi, _ => by show 0 = Zw (s.set i 1); rw [Zw_one s i hi]
  | L :: cl, hc, s, i, hi, h0 => Fc_set (by have := hc L (by simp); omega) (Fw_set cl (fun x hx => hc x (by simp [hx]))) s i hi h0
theorem Fw_none : ∀ (cl : List Int), okC cl → ∀ (s : List Int) (i : Nat), s[i]? = some 0 → Fw cl s i = 0
  | [], _, _, _, _ => rfl
  | L :: cl, hc, s, i, h0 => Fc_none (by have := hc L (by simp); omega) (Fw_none cl (fun x hx => hc x (by simp [hx]))) s i h0

theorem Zw_le : ∀ s : List Int, Zw s ≤ 1
  | [] => Nat.le_refl 1
  | c :: r => by unfold Zw; split <;> simp [Zw_le r]
theorem Wc_le {L : Nat} {g : List Int → Nat} (hg : ∀ s, g s ≤ 2 ^ s.length) : ∀ s : List Int, Wc L g s ≤ 2 ^ s.length
  | [] => by simp [Wc]
  | c :: r => by
    have ih := Wc_le (L := L) hg r
    have h2 := hg (r.drop L)
    have h3 : 2 ^ (r.drop L).length ≤ 2 ^ r.length := Nat.pow_le_pow_right (by omega) (by simp)
    unfold Wc
    rw [List.length_cons, Nat.pow_succ]
    split <;> split <;> omega
theorem Ww_le : ∀ (cl s : List Int), Ww cl s ≤ 2 ^ s.length
  | [], s => Nat.le_trans (Zw_le s) Nat.one_le_two_pow
  | L :: cl, s => Wc_le (Ww_le cl) s
theorem Fc_le {L : Nat} {g : List Int → Nat} {h : List Int → Nat → Nat} (hh : ∀ s i, h s i ≤ g s) : ∀ (s : List Int) (i : Nat), Fc L g h s i ≤ Wc L g s
  | [], _ => by simp [Fc, Wc]
  | c :: r, i => by
    unfold Fc Wc
    refine Nat.add_le_add ?_ ?_
    · split
      · exact Nat.le_refl _
      · cases i with
        | zero => exact Nat.zero_le _
        | succ i => exact Fc_le hh r i
    · split
      · split
        · exact Nat.le_refl _
        · split
          · exact Nat.zero_le _
          · exact hh _ _
      · exact Nat.le_refl _
theorem Fw_le : ∀ (cl s : List Int) (i : Nat), Fw cl s i ≤ Ww cl s
  | [], _, _ => Nat.zero_le _
  | L :: cl, s, i => Fc_le (Fw_le cl) s i

/-- How much room a clue needs. -/
def needN : List Int → Nat
  | [] => 0
  | L :: cl => L.toNat + (if cl = [] then 0 else 1 + needN cl)
theorem Wc_small {L : Nat} {g : List Int → Nat} {k : Nat} (hg : ∀ s : List Int, s.length < k → g s = 0) : ∀ s : List Int, s.length < L + (if k = 0 then 0 else 1 + k) → Wc L g s = 0
  | [], _ => rfl
  | c :: r, h => by
    have ih := Wc_small (L := L) hg r (by rw [List.length_cons] at h; omega)
    unfold Wc
    rw [ih]
    by_cases hf : fitL L (c :: r) = true
    · rw [if_pos hf]
      have hl : L ≤ (c :: r).length := by
        unfold fitL at hf
        simp only [Bool.and_eq_true, decide_eq_true_eq] at hf
        exact hf.1.1
      rw [List.length_cons] at h hl
      by_cases hk : k = 0
      · rw [if_pos hk] at h; omega
      · rw [if_neg hk] at h
        rw [hg (r.drop L) (by rw [List.length_drop]; omega)]; simp
    · rw [if_neg hf]; simp
theorem needN_pos {cl : List Int} (hc : okC cl) : needN cl = 0 ↔ cl = [] := by
  cases cl with
  | nil => simp [needN]
  | cons L cl => have := hc L (by simp); simp [needN]; omega
theorem Ww_small : ∀ (cl : List Int), okC cl → ∀ s : List Int, s.length < needN cl → Ww cl s = 0
  | [], _, s, h => by simp [needN] at h
  | L :: cl, hc, s, h => by
    have hc' : okC cl := fun x hx => hc x (by simp [hx])
    refine Wc_small (k := needN cl) (fun t ht => Ww_small cl hc' t ht) s ?_
    unfold needN at h
    by_cases e : cl = []
    · rw [if_pos e] at h; rw [if_pos ((needN_pos hc').2 e)]; exact h
    · rw [if_neg e] at h; rw [if_neg (fun z => e ((needN_pos hc').1 z))]; exact h

/-! ### the program's count -/
theorem contains_p (s : List Int) (v : Int) (hl : s.length ≤ 1000000) : slices_Contains_m s v = some (s.any (fun x => v == x)) := by
  unfold slices_Contains_m slices_Index_m
  have key := search_loop (step := slices_Index_L1 s v) (l := s) (fun x => v == x) (fun i => Fl.ret (i : Int)) (Fl.go ()) (by
    intro i x hx hp
    have hb := idx_bd hx
    simp only [slices_Index_L1, slices_Index_J2]
    rw [if_pos (decide_eq_true hb.2), asrt_pos hb, geti_some hx, if_pos hp]) (by
    intro i x hx hp
    have hb := idx_bd hx
    simp only [slices_Index_L1, slices_Index_J2, slices_Index_J3]
    rw [if_pos (decide_eq_true hb.2), asrt_pos hb, geti_some hx, if_neg (by rw [hp]; decide), w64_of (by omega)]) (by
    simp only [slices_Index_L1]
    rw [if_neg (by simp)])
  rw [key, Option.bind_some]
  cases hf : s.findIdx? (fun x => v == x) with
  | none =>
    have : s.any (fun x => v == x) = false := by
      rw [List.any_eq_false]
      intro x hx; rw [List.findIdx?_eq_none_iff.1 hf x hx]; decide
    rw [this]; rfl
  | some i =>
    have : s.any (fun x => v == x) = true := by
      obtain ⟨hi, hp, _⟩ := List.findIdx?_eq_some_iff_getElem.1 hf
      rw [List.any_eq_true]
      exact ⟨s[i], List.getElem_mem hi, hp⟩
    rw [this]
    show some (decide ((0 : Int) ≤ (i : Int))) = some true
    rw [decide_eq_true (by omega)]

theorem fits_p {line cl : List Int} {K : List ((Int × Int) × Int)} {a L : Nat} (hl : line.length ≤ 20) (ha : a < line.length) (hL : L ≤ 20) : nono_filler_fits_m line cl K a L = some (fitL L (line.drop a)) := by
  unfold nono_filler_fits_m fitL
  have e1 : w64 ((a : Int) + (L : Int)) = ((a + L : Nat) : Int) := by rw [w64_of (by omega)]; omega
  have e2 : L ≤ (line.drop a).length ↔ a + L ≤ line.length := by rw [List.length_drop]; omega
  rw [e1, asrt_pos (by intro h; simp at h; omega)]
  by_cases h : a + L ≤ line.length
  · rw [if_pos (decide_eq_true (by omega)), contains_p _ _ (by unfold cut; simp; omega), Option.bind_some]
    have ec : cut line (a : Int) ((a + L : Nat) : Int) = (line.drop a).take L := by
      unfold cut
      rw [Int.toNat_natCast]
      congr 1
      omega
    have ea : ((line.drop a).take L).any (fun x => (0 : Int) == x) = !((line.drop a).take L).all (fun x => x != 0) := by
      rw [Bool.eq_iff_iff]
      simp [List.any_eq_true]
    rw [ec, ea, Bool.not_not, decide_eq_true (e2.2 h), decide_eq_true (show ((a + L : Nat) : Int) ≤ (line.length : Int) by omega)]
    rw [asrt_pos (by intro h1 _; simp at h1; omega)]
    congr 2
    rw [List.getElem?_drop]
    by_cases h3 : a + L = line.length
    · rw [List.getElem?_eq_none (by omega), show (((a + L : Nat) : Int) == (line.length : Int)) = true by rw [beq_iff_eq]; omega]; rfl
    · have hlt : a + L < line.length := by omega
      rw [get_geti hlt, show (((a + L : Nat) : Int) == (line.length : Int)) = false by rw [beq_eq_false_iff_ne]; omega, Bool.false_or]
      rw [Bool.eq_iff_iff]
      simp
  · rw [if_neg (by simp; omega), Option.bind_some, decide_eq_false (fun z => h (e2.1 z)), decide_eq_false (show ¬ ((a + L : Nat) : Int) ≤ (line.length : Int) by omega), asrt_pos (by intro _ z; simp at z)]
    simp

/-- What is remembered is right. -/
def okM (line cl : List Int) (K : List ((Int × Int) × Int)) : Prop := ∀ a b : Nat, mhas ((a : Int), (b : Int)) K = true → mget 0 ((a : Int), (b : Int)) K = (Ww (cl.drop b) (line.drop a) : Int)

theorem okM_put {line cl : List Int} {K : List ((Int × Int) × Int)} (h : okM line cl K) (a b : Nat) : okM line cl (mput ((a : Int), (b : Int)) (Ww (cl.drop b) (line.drop a) : Int) K) := by
  intro a' b' hh
  rw [mget_mput]
  rw [mhas_mput] at hh
  by_cases e : ((a' : Int), (b' : Int)) = ((a : Int), (b : Int))
  · rw [if_pos e]
    simp only [Prod.mk.injEq] at e
    rw [show a' = a by omega, show b' = b by omega]
  · rw [if_neg e]
    rw [decide_eq_false e, Bool.false_or] at hh
    exact h a' b' hh

theorem ways_F {line cl : List Int} (hl : line.length ≤ 20) (hc : okC cl) (hcl : cl.length ≤ 17592186043904) : ∀ (N a b : Nat) (K : List ((Int × Int) × Int)), line.length + 1 ≤ N + a → 1 ≤ N → a ≤ 60 → b ≤ cl.length → okM line cl K →
    ∃ K', nono_filler_ways_mF N line cl K a b = some ((Ww (cl.drop b) (line.drop a) : Int), K') ∧ okM line cl K'
  | 0, _, _, _, _, h, _, _, _ => by omega
  | N + 1, a, b, K, hN, _, ha, hb, hK => by
    show ∃ K', nono_filler_ways_B (nono_filler_ways_mF N) line cl K a b = _ ∧ _
    unfold nono_filler_ways_B
    by_cases h1 : line.length ≤ a
    · rw [if_pos (decide_eq_true (by omega)), List.drop_eq_nil_of_le h1]
      by_cases h2 : b = cl.length
      · rw [if_pos (by rw [h2]; simp), h2, List.drop_length]
        exact ⟨K, rfl, hK⟩
      · rw [if_neg (by rw [beq_iff_eq]; omega)]
        have : cl.drop b ≠ [] := by
          intro z
          have := List.drop_eq_nil_iff.1 z
          omega
        refine ⟨K, ?_, hK⟩
        cases hd : cl.drop b with
        | nil => exact absurd hd this
        | cons L r => rfl
    · rw [if_neg (by simp; omega)]
      unfold nono_filler_ways_J1
      by_cases h2 : mhas ((a : Int), (b : Int)) K = true
      · rw [if_pos h2, hK a b h2]
        exact ⟨K, rfl, hK⟩
      · rw [if_neg h2]
        unfold nono_filler_ways_J3
        have hal : a < line.length := by omega
        have hline : line.drop a = geti line a :: line.drop (a + 1) := by
          rw [List.drop_eq_getElem_cons hal]
          congr 1
          have := get_geti hal
          rw [List.getElem?_eq_getElem hal] at this
          exact Option.some.inj this
        have e1 : w64 ((a : Int) + 1) = ((a + 1 : Nat) : Int) := by rw [w64_of (by omega)]; omega
        -- the first part
        have fin : ∀ (n3 : Nat) (K2 : List ((Int × Int) × Int)), okM line cl K2 → n3 ≤ 2 ^ 20 → (n3 : Nat) = (if geti line a = 1 then 0 else Ww (cl.drop b) (line.drop (a + 1))) →
            ∃ K', nono_filler_ways_J4 (nono_filler_ways_mF N) line cl a b K2 n3 = some ((Ww (cl.drop b) (line.drop a) : Int), K') ∧ okM line cl K' := by
          intro n3 K2 hK2 hn hn3
          have done : ∀ (K3 : List ((Int × Int) × Int)) (v : Int), okM line cl K3 → v = (Ww (cl.drop b) (line.drop a) : Int) → ∃ K', nono_filler_ways_J5 a b K3 v = some ((Ww (cl.drop b) (line.drop a) : Int), K') ∧ okM line cl K' := by
            rintro K3 v h3 rfl
            exact ⟨_, rfl, okM_put h3 a b⟩
          unfold nono_filler_ways_J4
          by_cases h3 : b < cl.length
          · have hdr : cl.drop b = geti cl b :: cl.drop (b + 1) := by
              rw [List.drop_eq_getElem_cons h3]
              congr 1
              have := get_geti h3
              rw [List.getElem?_eq_getElem h3] at this
              exact Option.some.inj this
            have hLm : geti cl b ∈ cl := by
              have := get_geti h3
              exact List.mem_of_getElem? this
            have hLb := hc _ hLm
            obtain ⟨L, hL⟩ : ∃ L : Nat, geti cl b = (L : Int) := ⟨(geti cl b).toNat, by omega⟩
            have hW : Ww (cl.drop b) (line.drop a) = n3 + (if fitL L (line.drop a) = true then Ww (cl.drop (b + 1)) ((line.drop (a + 1)).drop L) else 0) := by
              rw [hn3, hdr, hline]
              show Wc (geti cl b).toNat (Ww (cl.drop (b + 1))) (geti line a :: line.drop (a + 1)) = _
              rw [hL, Int.toNat_natCast]
              unfold Wc
              congr 1
            rw [if_pos (decide_eq_true (by omega)), asrt_pos (by omega), hL, fits_p hl hal (by omega), Option.bind_some]
            by_cases h4 : fitL L (line.drop a) = true
            · have e2 : w64 (w64 ((a : Int) + (L : Int)) + 1) = ((a + L + 1 : Nat) : Int) := by rw [w64_of (x := (a : Int) + L) (by omega), w64_of (by omega)]; omega
              have e3 : w64 ((b : Int) + 1) = ((b + 1 : Nat) : Int) := by rw [w64_of (by omega)]; omega
              rw [if_pos h4, e2, e3]
              have hfl : L ≤ (line.drop a).length := by
                unfold fitL at h4
                simp only [Bool.and_eq_true, decide_eq_true_eq] at h4
                exact h4.1.1
              rw [List.length_drop] at hfl
              obtain ⟨K3, hk3, ok3⟩ := ways_F hl hc hcl N (a + L + 1) (b + 1) K2 (by omega) (by omega) (by omega) (by omega) hK2
              rw [hk3, Option.bind_some]
              dsimp only
              refine done K3 _ ok3 ?_
              have hb2 := Ww_le (cl.drop (b + 1)) (line.drop (a + L + 1))
              have hb3 : 2 ^ (line.drop (a + L + 1)).length ≤ 2 ^ 20 := Nat.pow_le_pow_right (by omega) (by rw [List.length_drop]; omega)
              rw [hW, if_pos h4, List.drop_drop, show a + 1 + L = a + L + 1 by omega, w64_of (by omega)]
              omega
            · rw [if_neg h4]
              exact done K2 _ hK2 (by rw [hW, if_neg h4]; simp)
          · rw [if_neg (by simp; omega)]
            refine done K2 _ hK2 ?_
            have hnil : cl.drop b = [] := List.drop_eq_nil_of_le (by omega)
            rw [hn3, hnil, hline]
            show _ = (Zw (geti line a :: line.drop (a + 1)) : Int)
            unfold Zw
            rfl
        rw [asrt_pos (by omega)]
        by_cases h3 : geti line a = 1
        · rw [if_neg (by rw [h3]; decide)]
          exact fin 0 K hK (by omega) (by rw [if_pos h3])
        · rw [if_pos (by rw [bne_iff_ne]; exact h3), e1]
          obtain ⟨K2, hk2, ok2⟩ := ways_F hl hc hcl N (a + 1) b K (by omega) (by omega) (by omega) hb hK
          rw [hk2, Option.bind_some]
          dsimp only
          have hb2 := Ww_le (cl.drop b) (line.drop (a + 1))
          have hb3 : 2 ^ (line.drop (a + 1)).length ≤ 2 ^ 20 := Nat.pow_le_pow_right (by omega) (by rw [List.length_drop]; omega)
          exact fin _ K2 ok2 (by omega) (by rw [if_neg h3])

theorem ways_p {line cl : List Int} (hl : line.length ≤ 20) (hc : okC cl) (hcl : cl.length ≤ 17592186043904) : nono_ways_m line cl = some (Ww cl line : Int) := by
  unfold nono_ways_m
  obtain ⟨K', h1, _⟩ := ways_F hl hc hcl (line.length + 1) 0 0 [] (by omega) (by omega) (by omega) (by omega) (fun a b h => by simp [mhas] at h)
  have := nono_filler_ways_m_of _ _ _ _ _ _ h1
  rw [show nono_filler_ways_m line cl [] 0 0 = _ from this, Option.bind_some]
  rfl
end Go.Proofs.Ytdjjomghggplpaa
