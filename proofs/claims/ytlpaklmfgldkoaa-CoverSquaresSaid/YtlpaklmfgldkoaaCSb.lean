/-
  Latin squares: the program's count, cell by cell.
-/
import Derived.Test.YtlpaklmfgldkoaaCSa
namespace Go.Proofs.Ytlpaklmfgldkoaa
open Go Go.GL

def Fn (n m : Nat) (rows : List (List Int)) (o : List Int) : Nat := if freeR rows o then lt n m (rows ++ [up1 o]) else 0
theorem lt_dfs (n m : Nat) (rows : List (List Int)) : lt n (m + 1) rows = dfs n (Fn n m rows) n [] := rfl
def lv (n : Nat) (rows : List (List Int)) (q : List Int) : Nat := if rows.length = n then 1 else dfs n (Fn n (n - rows.length - 1) rows) (n - q.length) q

theorem dfs_le {n : Nat} {F : List Int → Nat} {b : Nat} (h : ∀ o, F o ≤ b) : ∀ k q, dfs n F k q ≤ n ^ k * b
  | 0, q => by simp only [dfs]; rw [Nat.pow_zero, Nat.one_mul]; exact h q
  | k + 1, q => by
    simp only [dfs]
    have h1 := sum_le (f := fun x => dfs n F k (q ++ [x])) (b := n ^ k * b) (fun x => dfs_le h k _) (flx q 0 n)
    have h2 := flx_len q 0 n
    have h3 : (flx q 0 n).length * (n ^ k * b) ≤ n * (n ^ k * b) := Nat.mul_le_mul_right _ h2
    rw [Nat.pow_succ, Nat.mul_comm (n ^ k) n, Nat.mul_assoc]
    omega
theorem pow5 {n k : Nat} (hn : n ≤ 5) (hk : k ≤ 5) : n ^ k ≤ 3125 := by
  have : ∀ a b : Fin 6, a.val ^ b.val ≤ 3125 := by decide
  exact this ⟨n, by omega⟩ ⟨k, by omega⟩
theorem dfs_bd {n k m : Nat} (hn : n ≤ 5) (hk : k ≤ 5) (hm : m ≤ 5) (rows : List (List Int)) (q : List Int) : dfs n (Fn n m rows) k q ≤ 77760000000000 := by
  have h := dfs_le (n := n) (F := Fn n m rows) (b := 24883200000) (fun o => by
    unfold Fn
    split
    · exact lt_bd hn hm _
    · exact Nat.zero_le _) k q
  have h2 : n ^ k * 24883200000 ≤ 3125 * 24883200000 := Nat.mul_le_mul_right _ (pow5 hn hk)
  omega

theorem or_xor_id {c v : Nat} (h : c.testBit v = false) : c ^^^ 2 ^ v = c ||| 2 ^ v := by
  refine Nat.eq_of_testBit_eq (fun i => ?_)
  rw [bit_xor_pow, bit_or_pow]
  by_cases e : v = i
  · subst e; rw [h]; simp
  · simp [e]
theorem xor_back {c v : Nat} (h : c.testBit v = false) : (c ||| 2 ^ v) ^^^ 2 ^ v = c := by
  refine Nat.eq_of_testBit_eq (fun i => ?_)
  rw [bit_xor_pow, bit_or_pow]
  by_cases e : v = i
  · subst e; rw [h]; simp
  · simp [e]
theorem colL_le {rows : List (List Int)} {x : Nat} (h : ∀ r ∈ rows, ∀ x : Nat, geti r (x : Int) ≤ 5) : ∀ v ∈ colL rows [] x, v ≤ 5 := by
  intro v hv
  unfold colL at hv
  rw [if_neg (by simp), List.append_nil, List.mem_map] at hv
  obtain ⟨r, hr, rfl⟩ := hv
  have := h r hr x
  omega
theorem colL_mem {rows : List (List Int)} {x v : Nat} : v ∈ colL rows [] x ↔ ∃ r ∈ rows, (geti r (x : Int)).toNat = v := by
  unfold colL
  rw [if_neg (by simp), List.append_nil, List.mem_map]

theorem free_zero {n m k : Nat} {rows : List (List Int)} {q : List Int} {j : Nat} (h : ∃ r ∈ rows, (geti r (q.length : Int)).toNat = j + 1) : dfs n (Fn n m rows) k (q ++ [(j : Int)]) = 0 := by
  refine dfs_zero _ _ _ _ (fun t _ => ?_)
  unfold Fn
  rw [if_neg]
  intro hf
  obtain ⟨r, hr, e⟩ := h
  have := freeR_iff.1 hf q.length (by simp) r hr
  rw [geti_app (by simp), geti_snoc] at this
  omega
theorem free_next {rows : List (List Int)} {q : List Int} {j : Nat} (hf : freeR rows q = true) (h : ¬ ∃ r ∈ rows, (geti r (q.length : Int)).toNat = j + 1) : freeR rows (q ++ [(j : Int)]) = true := by
  rw [freeR_iff] at hf ⊢
  intro x hx r hr e
  rw [List.length_append, List.length_singleton] at hx
  by_cases hxq : x < q.length
  · rw [geti_app hxq] at e
    exact hf x hxq r hr e
  · have : x = q.length := by omega
    subst this
    rw [geti_snoc] at e
    exact h ⟨r, hr, by omega⟩

theorem lat_p {n : Nat} (h1 : 1 ≤ n) (h5 : n ≤ 5) : ∀ (d : Nat) (rows : List (List Int)) (q : List Int) (used : Nat), (∀ r ∈ rows, ∀ x : Nat, geti r (x : Int) ≤ 5) → (∀ y ∈ q, 0 ≤ y ∧ y < (n : Int)) → q.length < n → rows.length * n + q.length + d = n * n → freeR rows q = true →
    (q ≠ [] → ∀ v : Nat, 1 ≤ v → v ≤ n → used.testBit v = decide ((v : Int) - 1 ∈ q)) → used < 64 →
    cover_Latin_1_mF (d + 1) ((rows.length * n + q.length : Nat) : Int) (used : Int) n (colsAt n rows (up1 q)) = some (((lv n rows q : Nat) : Int), colsAt n rows (up1 q))
  | d, rows, q, used, hrows, hq, ql, hd, hfr, hbits, hu => by
    have hnn : n * n ≤ 25 := Nat.mul_le_mul h5 h5
    have hnw : w64 ((n : Int) * (n : Int)) = ((n * n : Nat) : Int) := by
      rw [← Int.natCast_mul]
      exact w64_of (by omega)
    have hmod : Int.tmod ((rows.length * n + q.length : Nat) : Int) (n : Int) = (q.length : Int) := by
      rw [tmod_nat, Nat.mul_comm, Nat.mul_add_mod, Nat.mod_eq_of_lt ql]
    have key : ∀ u : Nat, u < 64 → (∀ v : Nat, 1 ≤ v → v ≤ n → u.testBit v = decide ((v : Int) - 1 ∈ q)) → cover_Latin_1_J1 (cover_Latin_1_mF d) ((rows.length * n + q.length : Nat) : Int) n (colsAt n rows (up1 q)) (u : Int) = some (((lv n rows q : Nat) : Int), colsAt n rows (up1 q)) := by
      intro u hu64 hub
      unfold cover_Latin_1_J1
      rw [hnw]
      match d, hd with
      | 0, hd =>
        have hrl : rows.length = n := by
          have hle : rows.length ≤ n := by
            by_cases h : rows.length ≤ n
            · exact h
            · have : (n + 1) * n ≤ rows.length * n := Nat.mul_le_mul_right _ (by omega)
              rw [Nat.succ_mul] at this
              omega
          by_cases h : rows.length = n
          · exact h
          · have : (rows.length + 1) * n ≤ n * n := Nat.mul_le_mul_right _ (by omega)
            rw [Nat.succ_mul] at this
            omega
        rw [if_pos (by rw [beq_iff_eq]; omega)]
        unfold lv
        rw [if_pos hrl]; rfl
      | e + 1, hd =>
        have hrl : rows.length < n := by
          by_cases h : rows.length < n
          · exact h
          · have : n * n ≤ rows.length * n := Nat.mul_le_mul_right _ (by omega)
            omega
        rw [if_neg (by rw [beq_iff_eq]; omega)]
        unfold cover_Latin_1_J2
        let D : Int → Nat := fun x => dfs n (Fn n (n - rows.length - 1) rows) (n - q.length - 1) (q ++ [x])
        have hlv : lv n rows q = ((flx q 0 n).map D).sum := by
          unfold lv
          rw [if_neg (by omega), show n - q.length = (n - q.length - 1) + 1 by omega]
          rfl
        have hbd : ((flx q 0 n).map D).sum ≤ 77760000000000 := by
          have := dfs_bd (n := n) (k := n - q.length) (m := n - rows.length - 1) h5 (by omega) (by omega) rows q
          rw [show n - q.length = (n - q.length - 1) + 1 by omega] at this
          exact this
        have hpart : ∀ j, j ≤ n → ((flx q 0 j).map D).sum ≤ ((flx q 0 n).map D).sum := fun j hj => by
          have e := flx_split q 0 j (n - j)
          rw [show j + (n - j) = n by omega] at e
          rw [e, List.map_append, List.sum_append]
          omega
        have hstep : ∀ j, ((flx q 0 (j + 1)).map D).sum = ((flx q 0 j).map D).sum + (if (j : Int) ∈ q then 0 else D (j : Int)) := fun j => by
          rw [flx_split, Nat.zero_add, flx_one, List.map_append, List.sum_append]
          split <;> simp
        have hcl : (colsAt n rows (up1 q)).length = n := colsAt_len _ _ _
        have hcg : getd (0 : Int) (colsAt n rows (up1 q)) (q.length : Int) = ((orM (colL rows [] q.length) : Nat) : Int) := by
          rw [colsAt_get ql, colL_at (by rw [up1_len]; exact Nat.le_refl _)]
        have hc64 : orM (colL rows [] q.length) < 64 := orM_lt (colL_le hrows)
        have hl : loop (cover_Latin_1_L1 (cover_Latin_1_mF (e + 1)) ((rows.length * n + q.length : Nat) : Int) n (colsAt n rows (up1 q)) (u : Int)) (colsAt n rows (up1 q), 0, 1) = some (((((flx q 0 n).map D).sum : Nat) : Int), colsAt n rows (up1 q)) := by
          refine loop_from (fun j => (colsAt n rows (up1 q), ((((flx q 0 j).map D).sum : Nat) : Int), ((j + 1 : Nat) : Int))) n (by simp [flx]) (fun j hj => ?_) ?_
          · have hp1 := hpart (j + 1) (by omega)
            have hst := hstep j
            have hbit := hub (j + 1) (by omega) (by omega)
            simp only [cover_Latin_1_L1, cover_Latin_1_J4]
            rw [if_pos (decide_eq_true (by omega)), hmod, hcl, asrt_pos (by omega), asrt_pos (fun _ => by omega), asrt_pos (fun _ => by omega), bitN (by omega) (by omega), hbit, hcg, bitN (by omega) (by omega), orM_bit, show ((j + 1 : Nat) : Int) - 1 = (j : Int) by omega]
            unfold cover_Latin_1_J5
            rw [w64_of (x := ((j + 1 : Nat) : Int) + 1) (by omega)]
            by_cases hjq : (j : Int) ∈ q
            · rw [decide_eq_true hjq, if_pos (by simp)]
              rw [if_pos hjq] at hst
              rw [hst]; rfl
            · rw [decide_eq_false hjq, Bool.false_or]
              rw [if_neg hjq] at hst
              by_cases hcol : (j + 1) ∈ colL rows [] q.length
              · rw [if_pos (decide_eq_true hcol)]
                have hz : D (j : Int) = 0 := free_zero (colL_mem.1 hcol)
                rw [hst, hz]; rfl
              · rw [if_neg (by simpa using hcol)]
                have hcb : (orM (colL rows [] q.length)).testBit (j + 1) = false := by rw [orM_bit, decide_eq_false hcol]
                have hfn := free_next hfr (fun h => hcol (colL_mem.2 h))
                have hset := colsAt_set (n := n) (rows := rows) (p := up1 q) (v := ((j + 1 : Nat) : Int)) (by rw [up1_len]; exact ql)
                rw [up1_len, Int.toNat_natCast] at hset
                have hup : up1 q ++ [((j + 1 : Nat) : Int)] = up1 (q ++ [(j : Int)]) := by rw [up1_app]; rfl
                rw [hup] at hset
                have hused : (u ||| 2 ^ (j + 1)) < 64 := Nat.or_lt_two_pow (n := 6) hu64 (Nat.pow_lt_pow_right (by omega) (by omega))
                have hor64 : (orM (colL rows [] q.length) ||| 2 ^ (j + 1)) < 64 := Nat.or_lt_two_pow (n := 6) hc64 (Nat.pow_lt_pow_right (by omega) (by omega))
                have hrec : cover_Latin_1_mF (e + 1) ((rows.length * n + q.length + 1 : Nat) : Int) ((u ||| 2 ^ (j + 1) : Nat) : Int) n (colsAt n rows (up1 (q ++ [(j : Int)]))) = some ((D (j : Int) : Int), colsAt n rows (up1 (q ++ [(j : Int)]))) := by
                  have hq' : ∀ y ∈ q ++ [(j : Int)], 0 ≤ y ∧ y < (n : Int) := fun y hy => by
                    rcases List.mem_append.1 hy with h | h
                    · exact hq y h
                    · rw [List.mem_singleton] at h
                      omega
                  by_cases hqn : q.length + 1 < n
                  · have ih := lat_p h1 h5 e rows (q ++ [(j : Int)]) (u ||| 2 ^ (j + 1)) hrows hq' (by simp; omega) (by simp; omega) hfn (fun _ v hv1 hv2 => by
                      rw [bit_or_pow, hub v hv1 hv2, ← Bool.decide_or, decide_eq_decide, List.mem_append, List.mem_singleton]
                      constructor
                      · rintro (h | h)
                        · exact .inl h
                        · exact .inr (by omega)
                      · rintro (h | h)
                        · exact .inl h
                        · exact .inr (by omega)) hused
                    have hlv' : lv n rows (q ++ [(j : Int)]) = D (j : Int) := by
                      unfold lv
                      rw [if_neg (by omega), List.length_append, List.length_singleton, ← Nat.sub_sub]
                    rw [hlv'] at ih
                    have el : (q ++ [(j : Int)]).length = q.length + 1 := by simp
                    rw [el, ← Nat.add_assoc] at ih
                    exact ih
                  · have el : (up1 (q ++ [(j : Int)])).length = n := by rw [up1_len]; simp; omega
                    rw [colsAt_next el]
                    have ih := lat_p h1 h5 e (rows ++ [up1 (q ++ [(j : Int)])]) [] (u ||| 2 ^ (j + 1)) (fun r hr x => by
                      rcases List.mem_append.1 hr with h | h
                      · exact hrows r h x
                      · rw [List.mem_singleton] at h
                        subst h
                        by_cases hx : x < (q ++ [(j : Int)]).length
                        · rw [geti_up1 hx]
                          have := hq' _ (List.mem_of_getElem? (get_geti hx))
                          omega
                        · rw [geti_nat, List.getD_eq_getElem?_getD, List.getElem?_eq_none (by rw [up1_len]; omega)]
                          exact (by decide : (0 : Int) ≤ 5)) (by simp) (by show 0 < n; omega) (by
                        rw [List.length_append, List.length_singleton, Nat.succ_mul]
                        simp only [List.length_nil]
                        omega) (by unfold freeR; simp) (fun h => absurd rfl h) hused
                    have hlv' : lv n (rows ++ [up1 (q ++ [(j : Int)])]) [] = D (j : Int) := by
                      have hk0 : n - q.length - 1 = 0 := by omega
                      show _ = dfs n _ (n - q.length - 1) _
                      rw [hk0]
                      show _ = Fn n (n - rows.length - 1) rows (q ++ [(j : Int)])
                      unfold Fn
                      rw [if_pos hfn]
                      unfold lv
                      rw [List.length_append, List.length_singleton]
                      by_cases hlast : rows.length + 1 = n
                      · rw [if_pos hlast, show n - rows.length - 1 = 0 by omega]; rfl
                      · rw [if_neg hlast, show n - rows.length - 1 = (n - (rows.length + 1) - 1) + 1 by omega, lt_dfs]; rfl
                    rw [hlv'] at ih
                    have ea : (rows ++ [up1 (q ++ [(j : Int)])]).length * n + ([] : List Int).length = rows.length * n + q.length + 1 := by
                      rw [List.length_append, List.length_singleton, Nat.succ_mul]
                      simp only [List.length_nil]
                      omega
                    rw [ea] at ih
                    exact ih
                have hne : n * n ≤ 25 := hnn
                unfold cover_Latin_1_J6 cover_Latin_1_J5
                rw [hmod, hcl, asrt_pos (by omega), asrt_pos (by omega), asrt_pos (by omega), asrt_pos (by omega), w64_of (x := ((rows.length * n + q.length : Nat) : Int) + 1) (by omega), shlN (by omega), orN (by omega) (pow_lt (by omega)), hcg, xorN (by omega) (pow_lt (by omega)), or_xor_id hcb, Int.toNat_natCast, hset, show ((rows.length * n + q.length : Nat) : Int) + 1 = ((rows.length * n + q.length + 1 : Nat) : Int) by omega, hrec, Option.bind_some, asrt_pos (by omega), asrt_pos (by omega), asrt_pos (by omega)]
                simp only
                have hg2 : getd (0 : Int) (colsAt n rows (up1 (q ++ [(j : Int)]))) (q.length : Int) = ((orM (colL rows [] q.length) ||| 2 ^ (j + 1) : Nat) : Int) := by
                  rw [← hset]
                  refine getd_some ?_
                  rw [List.getElem?_set_self (by rw [hcl]; exact ql)]
                have hback : (colsAt n rows (up1 (q ++ [(j : Int)]))).set q.length ((orM (colL rows [] q.length) : Nat) : Int) = colsAt n rows (up1 q) := by
                  rw [← hset, List.set_set]
                  refine List.ext_getElem? (fun i => ?_)
                  rw [List.getElem?_set]
                  split
                  · rename_i h
                    subst h
                    rw [if_pos (by rw [hcl]; exact ql), ← hcg]
                    unfold getd
                    rw [Int.toNat_natCast, List.getD_eq_getElem?_getD, List.getElem?_eq_getElem (by rw [hcl]; exact ql)]
                    rfl
                  · rfl
                rw [hg2, xorN (by omega) (pow_lt (by omega)), xor_back hcb, hback, w64_of (by omega), w64_of (x := ((j + 1 : Nat) : Int) + 1) (by omega), hst, Int.natCast_add]; rfl
          · simp only [cover_Latin_1_L1]
            rw [if_neg (by rw [decide_eq_true_eq]; omega)]
        rw [hl, Option.bind_some, hlv]; rfl
    show cover_Latin_1_B (cover_Latin_1_mF d) _ _ _ _ = _
    unfold cover_Latin_1_B
    rw [asrt_pos (by omega), hmod]
    by_cases h0 : q = []
    · rw [if_pos (by rw [h0]; rfl)]
      exact key 0 (by omega) (fun v _ _ => by rw [h0]; simp)
    · rw [if_neg (by rw [beq_iff_eq]; have := List.length_pos_iff.2 h0; omega)]
      exact key used hu (hbits h0)
end Go.Proofs.Ytlpaklmfgldkoaa
