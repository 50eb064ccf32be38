/-
  DiceKeeps: in how many ways dice fall, counted by how many show the greatest number; no program in sight.
-/
import Derived.Test.YtnplejebgbdfpaaLibX
namespace Go.GL

/-- A sum over 0 .. n-1. -/
def sm : Nat → (Nat → Int) → Int
  | 0, _ => 0
  | n + 1, f => sm n f + f n

theorem sm_succ (n : Nat) (f : Nat → Int) : sm (n + 1) f = sm n f + f n := rfl
theorem sm_congr {f g : Nat → Int} : ∀ (n : Nat), (∀ i, i < n → f i = g i) → sm n f = sm n g
  | 0, _ => rfl
  | n + 1, h => by
    unfold sm
    rw [sm_congr n (fun i hi => h i (by omega)), h n (by omega)]
theorem sm_add (f g : Nat → Int) : ∀ n, sm n (fun i => f i + g i) = sm n f + sm n g
  | 0 => rfl
  | n + 1 => by rw [sm_succ, sm_succ, sm_succ, sm_add f g n]; omega
theorem sm_mul (c : Int) (f : Nat → Int) : ∀ n, sm n (fun i => c * f i) = c * sm n f
  | 0 => by simp [sm]
  | n + 1 => by rw [sm_succ, sm_succ, sm_mul c f n, Int.mul_add]
theorem sm_zero : ∀ n, sm n (fun _ => 0) = 0
  | 0 => rfl
  | n + 1 => by rw [sm_succ, sm_zero n]; rfl
theorem sm_head (f : Nat → Int) : ∀ n, sm (n + 1) f = f 0 + sm n (fun i => f (i + 1))
  | 0 => by simp [sm]
  | n + 1 => by
    show sm (n + 1) f + f (n + 1) = f 0 + (sm n (fun i => f (i + 1)) + f (n + 1))
    rw [sm_head f n]; omega
theorem sm_swap (f : Nat → Nat → Int) (m : Nat) : ∀ n, sm n (fun i => sm m (f i)) = sm m (fun j => sm n (fun i => f i j))
  | 0 => by
    show (0 : Int) = sm m (fun _ => 0)
    rw [sm_zero]
  | n + 1 => by
    show sm n (fun i => sm m (f i)) + sm m (f n) = sm m (fun j => sm n (fun i => f i j) + f n j)
    rw [sm_swap f m n, sm_add]
theorem sm_split (f : Nat → Int) (a : Nat) : ∀ b, sm (a + b) f = sm a f + sm b (fun i => f (a + i))
  | 0 => by simp [sm]
  | b + 1 => by
    show sm (a + b) f + f (a + b) = sm a f + (sm b (fun i => f (a + i)) + f (a + b))
    rw [sm_split f a b]; omega

/-- Out of n, k. -/
def ch : Nat → Nat → Nat
  | _, 0 => 1
  | 0, _ + 1 => 0
  | n + 1, k + 1 => ch n k + ch n (k + 1)
theorem ch_out : ∀ n k, n < k → ch n k = 0
  | _, 0, h => by omega
  | 0, _ + 1, _ => rfl
  | n + 1, k + 1, h => by
    unfold ch
    rw [ch_out n k (by omega), ch_out n (k + 1) (by omega)]

/-- A sum over all throws of n dice with s sides. -/
def ss (s : Nat) : Nat → (List Nat → Int) → Int
  | 0, φ => φ []
  | n + 1, φ => sm s (fun d => ss s n (fun l => φ (d :: l)))

theorem ss_congr {s : Nat} : ∀ (n : Nat) {φ ψ : List Nat → Int}, (∀ l, l.length = n → (∀ d ∈ l, d < s) → φ l = ψ l) → ss s n φ = ss s n ψ
  | 0, φ, ψ, h => h [] rfl (by simp)
  | n + 1, φ, ψ, h => by
    unfold ss
    refine sm_congr s fun d hd => ss_congr n fun l hl hm => h (d :: l) (by simp [hl]) ?_
    intro e he
    rcases List.mem_cons.1 he with rfl | he
    · exact hd
    · exact hm e he

theorem ss_sm {s : Nat} (m : Nat) : ∀ (n : Nat) (φ : Nat → List Nat → Int), ss s n (fun l => sm m (fun i => φ i l)) = sm m (fun i => ss s n (φ i))
  | 0, _ => rfl
  | n + 1, φ => by
    unfold ss
    rw [← sm_swap]
    exact sm_congr s fun d _ => ss_sm m n (fun i l => φ i (d :: l))

/-- By how many dice show the greatest number. -/
theorem ss_top (s : Nat) : ∀ (n : Nat) (ψ : Nat → List Nat → Int), ss (s + 1) n (fun l => ψ (l.count s) (l.filter (fun d => d != s))) = sm (n + 1) (fun x => (ch n x : Int) * ss s (n - x) (ψ x))
  | 0, ψ => by simp [ss, sm, ch]
  | n + 1, ψ => by
    have e1 : ss (s + 1) (n + 1) (fun l => ψ (l.count s) (l.filter (fun d => d != s))) =
        sm s (fun d => ss (s + 1) n (fun l => ψ (l.count s) (d :: l.filter (fun d => d != s)))) + ss (s + 1) n (fun l => ψ (l.count s + 1) (l.filter (fun d => d != s))) := by
      show sm s _ + _ = _
      congr 1
      · refine sm_congr s fun d hd => ss_congr n fun l _ _ => ?_
        show ψ ((d :: l).count s) ((d :: l).filter (fun d => d != s)) = _
        rw [List.count_cons_of_ne (by omega), List.filter_cons_of_pos (by simp; omega)]
      · refine ss_congr n fun l _ _ => ?_
        show ψ ((s :: l).count s) ((s :: l).filter (fun d => d != s)) = _
        rw [List.count_cons_self, List.filter_cons_of_neg (by simp)]
    have e2 : sm s (fun d => ss (s + 1) n (fun l => ψ (l.count s) (d :: l.filter (fun d => d != s)))) = sm (n + 1) (fun x => (ch n x : Int) * ss s (n + 1 - x) (ψ x)) := by
      have : ∀ d, d < s → ss (s + 1) n (fun l => ψ (l.count s) (d :: l.filter (fun d => d != s))) = sm (n + 1) (fun x => (ch n x : Int) * ss s (n - x) (fun e => ψ x (d :: e))) := fun d _ => ss_top s n (fun x e => ψ x (d :: e))
      rw [sm_congr s this, sm_swap]
      refine sm_congr (n + 1) fun x hx => ?_
      rw [sm_mul]
      congr 1
      rw [show n + 1 - x = (n - x) + 1 by omega]
      rfl
    have e3 : ss (s + 1) n (fun l => ψ (l.count s + 1) (l.filter (fun d => d != s))) = sm (n + 1) (fun x => (ch n x : Int) * ss s (n - x) (ψ (x + 1))) := ss_top s n (fun x e => ψ (x + 1) e)
    rw [e1, e2, e3]
    have e4 : sm (n + 1 + 1) (fun x => (ch (n + 1) x : Int) * ss s (n + 1 - x) (ψ x)) = ss s (n + 1) (ψ 0) + sm (n + 1) (fun x => (ch n x : Int) * ss s (n - x) (ψ (x + 1)) + (ch n (x + 1) : Int) * ss s (n - x) (ψ (x + 1))) := by
      rw [sm_head]
      congr 1
      · simp [ch]
      · refine sm_congr (n + 1) fun x _ => ?_
        rw [show n + 1 - (x + 1) = n - x by omega, show ch (n + 1) (x + 1) = ch n x + ch n (x + 1) from rfl, Int.natCast_add, Int.add_mul]
    have e5 : sm (n + 1) (fun x => (ch n x : Int) * ss s (n + 1 - x) (ψ x)) = ss s (n + 1) (ψ 0) + sm (n + 1) (fun x => (ch n (x + 1) : Int) * ss s (n - x) (ψ (x + 1))) := by
      have h1 : sm (n + 1 + 1) (fun x => (ch n x : Int) * ss s (n + 1 - x) (ψ x)) = sm (n + 1) (fun x => (ch n x : Int) * ss s (n + 1 - x) (ψ x)) := by
        rw [sm_succ (n + 1), ch_out n (n + 1) (by omega)]
        simp
      rw [← h1, sm_head]
      congr 1
      · simp [ch]
      · refine sm_congr (n + 1) fun x _ => ?_
        rw [show n + 1 - (x + 1) = n - x by omega]
    rw [e4, e5, sm_add]
    omega

/-- What the greatest so many show. -/
def top : Nat → (Nat → Nat) → Nat → Int
  | 0, _, _ => 0
  | g + 1, f, c => (min (f g) c : Nat) * ((g : Int) + 1) + top g f (c - min (f g) c)
theorem top_congr {f h : Nat → Nat} : ∀ (g c : Nat), (∀ v, v < g → f v = h v) → top g f c = top g h c
  | 0, _, _ => rfl
  | g + 1, c, e => by
    unfold top
    rw [e g (by omega), top_congr g _ (fun v hv => e v (by omega))]

/-- In how many ways. -/
def cnt : Nat → Nat → Nat → Int → Int
  | 0, n, _, t => if n = 0 ∧ t = 0 then 1 else 0
  | g + 1, n, c, t => sm (n + 1) (fun x => (ch n x : Int) * cnt g (n - x) (c - min x c) (t - (min x c : Nat) * ((g : Int) + 1)))

theorem ss_zero (n : Nat) (φ : List Nat → Int) : ss 0 n φ = if n = 0 then φ [] else 0 := by
  cases n with
  | zero => rfl
  | succ n => rfl

theorem ss_cnt : ∀ (s n c : Nat) (t : Int), ss s n (fun l => if top s (fun v => l.count v) c = t then 1 else 0) = cnt s n c t
  | 0, n, c, t => by
    rw [ss_zero]
    unfold cnt top
    by_cases h : n = 0
    · rw [if_pos h]
      by_cases h2 : t = 0
      · rw [if_pos h2.symm, if_pos ⟨h, h2⟩]
      · rw [if_neg (fun e => h2 e.symm), if_neg (fun e => h2 e.2)]
    · rw [if_neg h, if_neg (fun e => h e.1)]
  | s + 1, n, c, t => by
    have e1 : ss (s + 1) n (fun l => if top (s + 1) (fun v => l.count v) c = t then (1 : Int) else 0) =
        ss (s + 1) n (fun l => (fun (x : Nat) (e : List Nat) => if top s (fun v => e.count v) (c - min x c) = t - (min x c : Nat) * ((s : Int) + 1) then (1 : Int) else 0) (l.count s) (l.filter (fun d => d != s))) := by
      refine ss_congr n fun l _ _ => ?_
      simp only
      have e0 : top (s + 1) (fun v => l.count v) c = (min (l.count s) c : Nat) * ((s : Int) + 1) + top s (fun v => l.count v) (c - min (l.count s) c) := rfl
      rw [e0]
      have e2 : top s (fun v => l.count v) (c - min (l.count s) c) = top s (fun v => (l.filter (fun d => d != s)).count v) (c - min (l.count s) c) := by
        refine top_congr s _ fun v hv => ?_
        rw [List.count_filter (by simp; omega)]
      rw [← e2]
      by_cases h : (min (l.count s) c : Nat) * ((s : Int) + 1) + top s (fun v => l.count v) (c - min (l.count s) c) = t
      · rw [if_pos h, if_pos (by omega)]
      · rw [if_neg h, if_neg (by omega)]
    rw [e1, ss_top s n (fun (x : Nat) (e : List Nat) => if top s (fun v => e.count v) (c - min x c) = t - (min x c : Nat) * ((s : Int) + 1) then (1 : Int) else 0)]
    unfold cnt
    refine sm_congr (n + 1) fun x _ => ?_
    rw [ss_cnt s (n - x) (c - min x c) (t - (min x c : Nat) * ((s : Int) + 1))]

/-- A number's digits. -/
def digs (s : Nat) : Nat → Nat → List Nat
  | 0, _ => []
  | n + 1, w => (w % s) :: digs s n (w / s)
theorem digs_len (s : Nat) : ∀ n w, (digs s n w).length = n
  | 0, _ => rfl
  | n + 1, w => by unfold digs; rw [List.length_cons, digs_len s n]
theorem digs_lt {s : Nat} (hs : 0 < s) : ∀ n w d, d ∈ digs s n w → d < s
  | 0, _, _, h => by simp [digs] at h
  | n + 1, w, d, h => by
    unfold digs at h
    rcases List.mem_cons.1 h with rfl | h
    · exact Nat.mod_lt _ hs
    · exact digs_lt hs n _ d h

theorem sm_digits {s : Nat} (hs : 0 < s) (f : Nat → Nat → Int) : ∀ m, sm (s * m) (fun w => f (w % s) (w / s)) = sm s (fun d => sm m (f d))
  | 0 => by
    show (0 : Int) = sm s (fun _ => 0)
    rw [sm_zero]
  | m + 1 => by
    rw [Nat.mul_succ, sm_split, sm_digits hs f m]
    show _ = sm s (fun d => sm m (f d) + f d m)
    rw [sm_add]
    congr 1
    refine sm_congr s fun d hd => ?_
    rw [Nat.mul_add_mod, Nat.mod_eq_of_lt hd, Nat.mul_add_div hs, Nat.div_eq_of_lt hd, Nat.add_zero]

theorem sm_ss {s : Nat} (hs : 0 < s) : ∀ (n : Nat) (φ : List Nat → Int), sm (s ^ n) (fun w => φ (digs s n w)) = ss s n φ
  | 0, φ => by simp [sm, digs, ss]
  | n + 1, φ => by
    rw [Nat.pow_succ, Nat.mul_comm]
    have := sm_digits hs (fun d w => φ (d :: digs s n w)) (s ^ n)
    show sm (s * s ^ n) (fun w => φ ((w % s) :: digs s n (w / s))) = _
    rw [this]
    unfold ss
    exact sm_congr s fun d _ => sm_ss hs n (fun l => φ (d :: l))

/-- THE COUNT OF ALL THROWS. -/
theorem throws {s : Nat} (hs : 0 < s) (n c : Nat) (t : Int) : sm (s ^ n) (fun w => if top s (fun v => (digs s n w).count v) c = t then 1 else 0) = cnt s n c t := by
  rw [← ss_cnt, ← sm_ss hs n]

theorem sm_one {s d : Nat} (hd : d < s) : sm s (fun v => if v = d then 1 else 0) = 1 := by
  induction s with
  | zero => omega
  | succ s ih =>
    rw [sm_succ]
    by_cases h : d = s
    · rw [if_pos h.symm]
      have : sm s (fun v => if v = d then (1 : Int) else 0) = sm s (fun _ => 0) := sm_congr s fun i hi => if_neg (by omega)
      rw [this, sm_zero]; rfl
    · rw [if_neg (fun e => h e.symm), ih (by omega)]; rfl

theorem count_tot {s : Nat} : ∀ (l : List Nat), (∀ d ∈ l, d < s) → sm s (fun v => (l.count v : Int)) = l.length
  | [], _ => by
    rw [sm_congr (g := fun _ => 0) s (fun i _ => by simp), sm_zero]; rfl
  | d :: l, h => by
    have := count_tot l (fun e he => h e (by simp [he]))
    rw [List.length_cons, Int.natCast_add, ← this, show ((1 : Nat) : Int) = 1 from rfl, ← sm_one (h d (by simp)), ← sm_add]
    refine sm_congr s fun v _ => ?_
    rw [List.count_cons]
    by_cases e : v = d
    · rw [if_pos e, if_pos (by simp [e])]; rfl
    · rw [if_neg e, if_neg (by simp; omega)]; rfl

theorem top_bd (f : Nat → Nat) : ∀ (s c : Nat), (c : Int) ≤ sm s (fun v => (f v : Int)) → (c : Int) ≤ top s f c ∧ top s f c ≤ c * (s : Int)
  | 0, c, h => by
    have h' : (c : Int) ≤ 0 := h
    obtain rfl : c = 0 := by omega
    simp [top]
  | s + 1, c, h => by
    have h' : (c : Int) ≤ sm s (fun v => (f v : Int)) + (f s : Int) := h
    have hnn : 0 ≤ sm s (fun v => (f v : Int)) := by
      clear h h'
      induction s with
      | zero => exact Int.le_refl 0
      | succ s ih => rw [sm_succ]; omega
    obtain ⟨h1, h2⟩ := top_bd f s (c - min (f s) c) (by omega)
    unfold top
    generalize hm : min (f s) c = m at *
    have hmc : m ≤ c := by omega
    rw [Int.natCast_sub hmc] at h1 h2
    have e1 : (m : Int) ≤ m * ((s : Int) + 1) := by
      have := Int.mul_le_mul_of_nonneg_left (show (1 : Int) ≤ (s : Int) + 1 by omega) (show (0 : Int) ≤ (m : Int) by omega)
      omega
    have e2 : ((c : Int) - m) * (s : Int) ≤ ((c : Int) - m) * ((s : Int) + 1) := Int.mul_le_mul_of_nonneg_left (by omega) (by omega)
    have e3 : (c : Int) * (((s + 1 : Nat)) : Int) = (m : Int) * ((s : Int) + 1) + ((c : Int) - m) * ((s : Int) + 1) := by
      rw [← Int.add_mul, show (m : Int) + ((c : Int) - m) = c by omega]; rfl
    omega

theorem ch_tab : ∀ l : Fin 11, ∀ x : Fin 11, x.val ≤ l.val → ch l.val x.val * (l.val - x.val) / (x.val + 1) = ch l.val (x.val + 1) ∧ ch l.val x.val ≤ 252 := by decide
end Go.GL
