/-
  slices.CompactFunc at rows, with slices.Equal: its two loops walked.
-/
import Derived.Test.YtoickcchcjehdaaSRc
import Derived.Lib.SliceRun
import Derived.Lib.SlicesCompact
import Derived.Test.YtoickcchcjehdaaFB
namespace Go.Proofs.Ytoickcchcjehdaa
open Go Go.GL Go.Shelf Go.RowKit Go.Lib Go.Sort Go.Proofs

theorem holds_get {w : World} {b o : Nat} {vs : List Value} {N : Nat} (hl : vs.length = N) (h : Holds id w b o vs.toArray) {j : Nat} (hj : j < N) {A : Option Addr} {n c : Nat} (e : vs.getD j (.slice none 0 0) = .slice A n c) : w.cell? ⟨b, o + j, none⟩ = some (.slice A n c) ∧ w.frozen? ⟨b, o + j, none⟩ = false := by
  obtain ⟨h1, h2⟩ := h j (by simpa [hl] using hj)
  refine ⟨h1.trans ?_, h2⟩
  rw [← e]
  have : j < vs.toArray.size := by simpa [hl] using hj
  rw [getElem!_pos vs.toArray j this]
  simp [List.getD_eq_getElem?_getD, List.getElem?_eq_getElem (show j < vs.length by omega)]

theorem store_v {w wr : World} {n blk o : Nat} {vs : List Value} {i : Nat} (hi : i < vs.length) (hwr : wr = putRow id (Sort.ahead w n) blk o vs.toArray) (x : Value) :
    wr.setCell ⟨blk, o + i, none⟩ x = putRow id (Sort.ahead w n) blk o (vs.set i x).toArray := by
  subst hwr
  have := putRow_set id (Sort.ahead w n) blk o vs.toArray i x (by simpa using hi)
  simpa using this

theorem drewN_put (w : World) (n q b o : Nat) (vs : Array Value) : (putRow id (Sort.ahead w n) b o vs).drewN q = putRow id (Sort.ahead w (n + q)) b o vs := by
  simp [putRow, mapBlock, Sort.ahead, World.drewN, Nat.add_assoc]

theorem kept_at {d : List Value} {m : List (List Int)} {k2 j : Nat} (hd : (keptR m k2).length ≤ j) (hj : j < d.length) : (packed d m k2).getD j (.slice none 0 0) = d.getD j (.slice none 0 0) := by
  rw [List.getD_eq_getElem?_getD, List.getD_eq_getElem?_getD, packed_high hd hj]

theorem zero22 (w : World) : (zeroValue 22).run Try.prog w = .ok (.slice none 0 0) w := by
  obtain ⟨i, hi, hz, hs, hb⟩ := info_parts Info22
  simp [zeroValue, typeInfo, hi, hz]

theorem take_lay {vs xs : List Value} {k : Nat} (h : k + xs.length ≤ vs.length) : (lay vs.toArray k xs).toList.take k = vs.take k ∧ (lay vs.toArray k xs).toList.length = vs.length := by
  have g := lay_get? xs vs.toArray k
  have hl : (lay vs.toArray k xs).toList.length = vs.length := by
    rw [Array.length_toList (xs := lay vs.toArray k xs)]
    have h1 := g vs.length (by simpa using h)
    rw [if_neg (by omega)] at h1
    have h3 : vs.length ≤ (lay vs.toArray k xs).size → (lay vs.toArray k xs).size ≤ vs.length := fun _ => by
      refine Nat.le_of_not_lt fun h4 => ?_
      rw [Array.getElem?_eq_getElem h4] at h1
      simp at h1
    refine Nat.le_antisymm ?_ ?_
    · rcases Nat.le_total vs.length (lay vs.toArray k xs).size with h5 | h5
      · exact h3 h5
      · exact h5
    · refine Nat.le_of_not_lt fun h4 => ?_
      have h2 := g (lay vs.toArray k xs).size (by simpa using h)
      rw [Array.getElem?_eq_none (Nat.le_refl _)] at h2
      by_cases hc : k ≤ (lay vs.toArray k xs).size ∧ (lay vs.toArray k xs).size < k + xs.length
      · rw [if_pos hc, List.getElem?_eq_getElem (by omega)] at h2
        simp at h2
      · rw [if_neg hc] at h2
        have h6 : (lay vs.toArray k xs).size < vs.toArray.size := by simpa using h4
        rw [Array.getElem?_eq_getElem h6] at h2
        simp at h2
  refine ⟨?_, hl⟩
  apply List.ext_getElem?
  intro j
  by_cases hj : j < k
  · rw [List.getElem?_take_of_lt hj, List.getElem?_take_of_lt hj, Array.getElem?_toList, g j (by simpa using h), if_neg (by omega)]
    simp
  · rw [List.getElem?_take_eq_none (by omega), List.getElem?_take_eq_none (by omega)]

set_option maxHeartbeats 4000000 in
set_option maxRecDepth 1000000 in
theorem compR_arr (b o c N : Nat) (d : List Value) (m : List (List Int)) (w : World) (_hm : m.length = N) (hl : d.length = N) (hH : Holds id w b o d.toArray) (hbig : N ≤ 9223372036854775807) (hcap : N ≤ c)
    (hs : ∀ j, j < N → ∃ A n k, d.getD j (.slice none 0 0) = .slice A n k)
    (heq : ∀ (i j q : Nat) (vs : List Value), vs.length = N → i < N → j < N → Calls Try.prog 126 #[d.getD i (.slice none 0 0), d.getD j (.slice none 0 0)] (putRow id (Sort.ahead w q) b o vs.toArray) fun e w' => e = .returned (.bool (decide (m.getD i [] = m.getD j []))) ∧ ∃ q', w' = (putRow id (Sort.ahead w q) b o vs.toArray).drewN q') :
    Calls Try.prog 134 #[.slice (some ⟨b, o, none⟩) N c, .func (.func 126) #[] #[]] w fun e w' => e = .returned (.slice (some ⟨b, o, none⟩) (keptR m N).length c) ∧ ∃ (q : Nat) (vs : List Value), vs.length = N ∧ vs.take (keptR m N).length = (keptR m N).map (d.getD · (.slice none 0 0)) ∧ w' = putRow id (Sort.ahead w q) b o vs.toArray := by
  have mixed : Try.prog.follows Departure.mixedOrders = true := by kernel_rfl
  have self : ∀ q, w.drewN q = putRow id (Sort.ahead w q) b o d.toArray := fun q => (putRow_self id (Sort.ahead w q) b o d.toArray (holds_ahead id w q b o _ hH)).symm
  have same : ∀ q, (∀ j, j < N → keepR m j = true) → (keptR m N).length = N ∧ ∃ (q' : Nat) (vs : List Value), vs.length = N ∧ vs.take (keptR m N).length = (keptR m N).map (d.getD · (.slice none 0 0)) ∧ w.drewN q = putRow id (Sort.ahead w q') b o vs.toArray := fun q hall => by
    have e := keptR_all hall
    rw [e, List.length_range]
    refine ⟨rfl, q, d, hl, ?_, self q⟩
    rw [← hl, List.take_length]
    apply List.ext_getElem?
    intro j
    by_cases hj : j < d.length
    · rw [List.getElem?_map, List.getElem?_range hj]
      simp [List.getD_eq_getElem?_getD, List.getElem?_eq_getElem hj]
    · rw [List.getElem?_eq_none (by omega), List.getElem?_eq_none (by simp; omega)]
  have SAME : Aside (∀ q, (∀ j, j < N → keepR m j = true) → (keptR m N).length = N ∧ ∃ (q' : Nat) (vs : List Value), vs.length = N ∧ vs.take (keptR m N).length = (keptR m N).map (d.getD · (.slice none 0 0)) ∧ w.drewN q = putRow id (Sort.ahead w q') b o vs.toArray) := same
  have HH : Aside (Holds id w b o d.toArray) := hH
  have SELF : Aside (∀ q, w.drewN q = putRow id (Sort.ahead w q) b o d.toArray) := self
  have HEQ : Aside (∀ (i j q : Nat) (vs : List Value), vs.length = N → i < N → j < N → Calls Try.prog 126 #[d.getD i (.slice none 0 0), d.getD j (.slice none 0 0)] (putRow id (Sort.ahead w q) b o vs.toArray) fun e w' => e = .returned (.bool (decide (m.getD i [] = m.getD j []))) ∧ ∃ q', w' = (putRow id (Sort.ahead w q) b o vs.toArray).drewN q') := heq
  have HS : Aside (∀ j, j < N → ∃ A n k, d.getD j (.slice none 0 0) = .slice A n k) := hs
  have HL : Aside (d.length = N) := hl
  clear hH self same heq hs hl _hm
  by_cases h2 : N < 2
  · go_enter Try.func134, Try.ntmps134
    go_wp2
    go_ret
    have hall : ∀ j, j < N → keepR m j = true := fun j hj => by unfold keepR; simp; omega
    obtain ⟨e1, e2⟩ := SAME.out 0 hall
    exact ⟨by rw [e1]; rfl, e2⟩
  · go_enter Try.func134, Try.ntmps134
    go_wp2
    go_loopg [5] N (fun g s3 wr => ∃ k q : Nat, 1 ≤ k ∧ k ≤ N ∧ N - k ≤ g ∧ s3 = .int .i64 k ∧ wr = w.drewN q ∧ ∀ j, j < k → keepR m j = true)
    case atStart => exact ⟨1, 0, Nat.le_refl _, by omega, by omega, rfl, rfl, fun j hj => by unfold keepR; simp; omega⟩
    case round =>
      obtain ⟨k, q, hk1, hk, hg, rfl, rfl, hall⟩ := hrel
      by_cases hlt : k < N
      · obtain ⟨A1, n1, k1, e1⟩ := HS.out k hlt
        have hpN : k - 1 < N := by omega
        obtain ⟨A0, n0, k0, e0⟩ := HS.out (k - 1) hpN
        obtain ⟨c1, f1⟩ := holds_get HL.out HH.out hlt e1
        obtain ⟨c0, f0⟩ := holds_get HL.out HH.out hpN e0
        have A : Aside (∀ j, j < k → keepR m j = true) := hall
        have CL : ∀ n, Calls Try.prog 126 #[.slice A1 n1 k1, .slice A0 n0 k0] (w.drewN n) fun e w' => e = .returned (.bool (decide (m.getD k [] = m.getD (k - 1) []))) ∧ ∃ q', w' = (w.drewN n).drewN q' := fun n => by
          have := HEQ.out k (k - 1) n d HL.out hlt hpN
          rw [e1, e0, ← SELF.out n] at this
          exact this
        clear hall e1 e0
        generalize hR : decide (m.getD k [] = m.getD (k - 1) []) = R at CL
        have hwr : IntKind.i64.wrap ((k : Int) - 1) = ((k - 1 : Nat) : Int) := by
          rw [IntWalk.i64_in _ (by omega)]
          omega
        cases R with
        | false =>
          go_wp2_with fail
          refine wp_region_quiet_lit (by kernel_rfl) (by kernel_rfl) ?_
          repeat (refine wpQuiet_step (fun K hK => ?_); go_simp; (try rw [hwr]); refine hK _ ?_; clear hK K)
          refine wpQuiet_step (fun K hK => ?_)
          go_simp
          refine ⟨.bool false, fun q1 => ?_, hK _ ?_⟩
          · refine (CL (q + q1)).mono ?_
            rintro e w' ⟨rfl, q', rfl⟩
            refine ⟨rfl, q1 + q', ?_⟩
            rw [World.drewN_drewN, Nat.add_assoc]
          clear hK K
          refine wpQuiet_nil ?_
          intro _ hw'
          obtain ⟨nq, hw''⟩ := hw'
          subst hw''
          clear CL c0 c1 f0 f1
          go_wp2
          go_roundg (N - (k + 1))
          case measure => omega
          case rel =>
            refine ⟨k + 1, q + nq, by omega, by omega, Nat.le_refl _, by go_num, by simp, fun j hj => ?_⟩
            by_cases e : j = k
            · subst e
              unfold keepR
              exact decide_eq_true (.inr (of_decide_eq_false hR))
            · exact A.out j (by omega)
        | true =>
          go_wp2_with fail
          refine wp_region_quiet_lit (by kernel_rfl) (by kernel_rfl) ?_
          repeat (refine wpQuiet_step (fun K hK => ?_); go_simp; (try rw [hwr]); refine hK _ ?_; clear hK K)
          refine wpQuiet_step (fun K hK => ?_)
          go_simp
          refine ⟨.bool true, fun q1 => ?_, hK _ ?_⟩
          · refine (CL (q + q1)).mono ?_
            rintro e w' ⟨rfl, q', rfl⟩
            refine ⟨rfl, q1 + q', ?_⟩
            rw [World.drewN_drewN, Nat.add_assoc]
          clear hK K
          refine wpQuiet_nil ?_
          intro _ hw'
          obtain ⟨nq, hw''⟩ := hw'
          subst hw''
          clear CL c0 c1 f0 f1
          go_wp2
          have hkk : keepR m k = false := by
            unfold keepR
            have := of_decide_eq_true hR
            exact decide_eq_false (by
              rintro (h | h)
              · omega
              · exact h this)
          have P0 : keptR m k = List.range k := keptR_all A.out
          have PL : packed d m k = d := packed_all (by rw [HL.out]; omega) A.out
          have PK : packed d m (k + 1) = d := by rw [packed_skip hkk, PL]
          have KL : (keptR m (k + 1)).length = k := by rw [keptR_succ, hkk, P0]; simp
          have PKA : Aside (packed d m (k + 1) = d) := PK
          have KLA : Aside ((keptR m (k + 1)).length = k) := KL
          have KF : Aside (keepR m k = false) := hkk
          clear hkk P0 PL PK KL
          go_loopg [5, 7] N (fun g s3 s5 wr => ∃ (kk k2 q2 : Nat), s3 = .int .i64 kk ∧ s5 = .int .i64 k2 ∧ 1 ≤ k2 ∧ k + k2 ≤ N ∧ N - (k + k2) ≤ g ∧ kk = (keptR m (k + k2)).length ∧ wr = putRow id (Sort.ahead w q2) b o (packed d m (k + k2)).toArray)
          case atStart => exact ⟨k, 1, q + nq, rfl, rfl, Nat.le_refl _, by omega, by omega, KLA.out.symm, by rw [PKA.out, ← SELF.out]⟩
          case round =>
            obtain ⟨kk, k2, q2, rfl, rfl, h1, hle, hg2, hkk, hwr⟩ := hrel
            have hkl : kk < k + k2 := by rw [hkk]; exact keptR_lt ⟨k, by omega, KF.out⟩
            have hds : (packed d m (k + k2)).length = N := by rw [packed_len (by rw [HL.out]; omega), HL.out]
            have hHk : Holds id wr b o (packed d m (k + k2)).toArray := by rw [hwr]; exact holds_putRow id _ b o d.toArray _ (holds_ahead id w q2 b o _ HH.out) (by simp [hds, HL.out])
            have W2 : Aside (wr = putRow id (Sort.ahead w q2) b o (packed d m (k + k2)).toArray) := hwr
            have KK : Aside (kk = (keptR m (k + k2)).length) := hkk
            have DS : Aside ((packed d m (k + k2)).length = N) := hds
            clear hwr hkk
            by_cases hlt2 : k + k2 < N
            · obtain ⟨Am, nm, km, em⟩ := HS.out (k + k2) hlt2
              obtain ⟨Ap, np, kp, ep⟩ := HS.out (k + k2 - 1) (by omega)
              obtain ⟨Ao, no, ko, eo⟩ := (show ∃ A n c, (packed d m (k + k2)).getD kk (.slice none 0 0) = .slice A n c from by
                rw [kept_at (by rw [← KK.out]; exact Nat.le_refl _) (by rw [HL.out]; omega)]
                exact HS.out kk (by omega))
              obtain ⟨cm, _⟩ := holds_get hds hHk hlt2 ((kept_at (by rw [← KK.out]; omega) (by rw [HL.out]; exact hlt2)).trans em)
              obtain ⟨cp, _⟩ := holds_get hds hHk (j := k + k2 - 1) (by omega) ((kept_at (by rw [← KK.out]; omega) (by rw [HL.out]; omega)).trans ep)
              obtain ⟨ck, fk⟩ := holds_get hds hHk (j := kk) (by omega) eo
              rw [show o + (k + k2) = o + k + k2 by omega] at cm
              rw [show o + (k + k2 - 1) = o + k + (k2 - 1) by omega] at cp
              have CL : ∀ n, Calls Try.prog 126 #[.slice Am nm km, .slice Ap np kp] (wr.drewN n) fun e w' => e = .returned (.bool (decide (m.getD (k + k2) [] = m.getD (k + k2 - 1) []))) ∧ ∃ q', w' = (wr.drewN n).drewN q' := fun n => by
                have := HEQ.out (k + k2) (k + k2 - 1) (q2 + n) (packed d m (k + k2)) DS.out hlt2 (by omega)
                rw [em, ep, ← drewN_put, ← W2.out] at this
                exact this
              have EM : Aside (d.getD (k + k2) (.slice none 0 0) = .slice Am nm km) := em
              clear hHk hds em ep eo
              generalize hR2 : decide (m.getD (k + k2) [] = m.getD (k + k2 - 1) []) = R2 at CL
              have hpN2 : k2 - 1 < N - k := by omega
              have hwr2 : IntKind.i64.wrap ((k2 : Int) - 1) = ((k2 - 1 : Nat) : Int) := by
                rw [IntWalk.i64_in _ (by omega)]
                omega
              cases R2 with
              | true =>
                go_wp2_with fail
                refine wp_region_quiet_lit (by kernel_rfl) (by kernel_rfl) ?_
                repeat (refine wpQuiet_step (fun K hK => ?_); go_simp; (try rw [hwr2]); refine hK _ ?_; clear hK K)
                refine wpQuiet_step (fun K hK => ?_)
                go_simp
                refine ⟨.bool true, fun q1 => ?_, hK _ ?_⟩
                · refine (CL q1).mono ?_
                  rintro e w' ⟨rfl, q', rfl⟩
                  refine ⟨rfl, q1 + q', ?_⟩
                  rw [World.drewN_drewN]
                clear hK K
                refine wpQuiet_step (fun K hK => ?_)
                go_simp
                refine hK _ ?_
                clear hK K
                refine wpQuiet_nil ?_
                intro _ hw'
                obtain ⟨nq2, hw''⟩ := hw'
                subst hw''
                clear CL cm cp ck fk
                go_wp2
                go_roundg (N - (k + (k2 + 1)))
                case measure => omega
                case rel =>
                  have hk : keepR m (k + k2) = false := by
                    unfold keepR
                    have := of_decide_eq_true hR2
                    exact decide_eq_false (by
                      rintro (h | h)
                      · omega
                      · exact h this)
                  refine ⟨kk, k2 + 1, q2 + nq2, rfl, by go_num, by omega, by omega, Nat.le_refl _, ?_, ?_⟩
                  · rw [KK.out, ← Nat.add_assoc, keptR_succ, hk]
                    simp
                  · rw [← Nat.add_assoc, packed_skip hk, W2.out, drewN_put]
              | false =>
                go_wp2_with fail
                refine wp_region_quiet_lit (by kernel_rfl) (by kernel_rfl) ?_
                repeat (refine wpQuiet_step (fun K hK => ?_); go_simp; (try rw [hwr2]); refine hK _ ?_; clear hK K)
                refine wpQuiet_step (fun K hK => ?_)
                go_simp
                refine ⟨.bool false, fun q1 => ?_, hK _ ?_⟩
                · refine (CL q1).mono ?_
                  rintro e w' ⟨rfl, q', rfl⟩
                  refine ⟨rfl, q1 + q', ?_⟩
                  rw [World.drewN_drewN]
                clear hK K
                refine wpQuiet_step (fun K hK => ?_)
                go_simp
                refine hK _ ?_
                clear hK K
                refine wpQuiet_nil ?_
                intro _ hw'
                obtain ⟨nq2, hw''⟩ := hw'
                subst hw''
                have C2 : Aside (∀ n, wr.drewN n = putRow id (Sort.ahead w (q2 + n)) b o (packed d m (k + k2)).toArray) := fun n => by rw [W2.out, drewN_put]
                clear CL cp
                go_wp2
                go_roundg (N - (k + (k2 + 1)))
                case measure => omega
                case rel =>
                  have hk : keepR m (k + k2) = true := by
                    unfold keepR
                    exact decide_eq_true (.inr (of_decide_eq_false hR2))
                  refine ⟨kk + 1, k2 + 1, q2 + nq2, by go_num, by go_num, by omega, by omega, Nat.le_refl _, ?_, ?_⟩
                  · rw [KK.out, ← Nat.add_assoc, keptR_succ, hk]
                    simp
                  · rw [← Nat.add_assoc, packed_keep (by rw [HL.out]; exact hlt2) hk, EM.out, ← KK.out]
                    exact store_v (by rw [DS.out]; omega) (C2.out nq2) _
            · have hend : k + k2 = N := by omega
              have hcl : ∀ ty, (Builtin.clear_ #[42] ty #[.slice (some ⟨b, o + kk, none⟩) (N - kk) (c - kk)]).run Try.prog wr = .ok (.tuple #[]) (wr.setCells b (o + kk) (List.replicate (N - kk) (.slice none 0 0))) :=
                fun ty => Lib.run_clear_slice wr _ _ ty _ Try.underlying42 zero22 rfl rfl b (o + kk) _ _ (by omega) (fun j hj => by
                  obtain ⟨A, n, k3, e⟩ := (show ∃ A n c, (packed d m (k + k2)).getD (kk + j) (.slice none 0 0) = .slice A n c from by
                    rw [kept_at (by rw [← KK.out]; omega) (by rw [HL.out]; omega)]
                    exact HS.out (kk + j) (by omega))
                  rw [show o + kk + j = o + (kk + j) by omega, (holds_get DS.out hHk (by omega) e).1]; rfl) (fun j hj => by
                  obtain ⟨A, n, k3, e⟩ := (show ∃ A n c, (packed d m (k + k2)).getD (kk + j) (.slice none 0 0) = .slice A n c from by
                    rw [kept_at (by rw [← KK.out]; omega) (by rw [HL.out]; omega)]
                    exact HS.out (kk + j) (by omega))
                  rw [show o + kk + j = o + (kk + j) by omega, (holds_get DS.out hHk (by omega) e).2])
              clear hHk
              go_wp2
              go_ret
              have e := KK.out
              rw [hend] at e
              have W3 := W2.out
              rw [hend] at W3
              have tl := take_lay (vs := packed d m N) (xs := List.replicate (N - kk) (.slice none 0 0)) (k := kk) (by rw [packed_len (by rw [HL.out]; exact Nat.le_refl _), HL.out]; simp; omega)
              refine ⟨by rw [← e]; rfl, q2, (lay (packed d m N).toArray kk (List.replicate (N - kk) (.slice none 0 0))).toList, ?_, ?_, ?_⟩
              · rw [tl.2, packed_len (by rw [HL.out]; exact Nat.le_refl _), HL.out]
              · rw [← e, tl.1]
                unfold packed
                rw [e, List.take_append_of_le_length (by simp), List.take_of_length_le (by simp)]
              · have := putRow_setCells id (Sort.ahead w q2) b o (List.replicate (N - kk) (.slice none 0 0)) (packed d m N).toArray kk (by simp [packed_len (d := d) (m := m) (k := N) (by rw [HL.out]; exact Nat.le_refl _), HL.out]; omega)
                rw [List.map_id] at this
                rw [W3, this]
      · have : k = N := by omega
        subst this
        go_wp2
        go_ret
        obtain ⟨e1, e2⟩ := SAME.out q hall
        exact ⟨by rw [e1]; rfl, e2⟩

end Go.Proofs.Ytoickcchcjehdaa
