/-
  Short words for what the walks speak of often.
-/
import Derived.Test.YtkpkkdpfcbnfdaaFB
namespace Go.Proofs.Ytkpkkdpfcbnfdaa
open Go Go.GL Go.RowKit
abbrev ChT := List Int × Int × Int × Int × Int × Int
abbrev ChT5 := List Int × Int × Int × Int × Int
abbrev MvT := Int × Int × Int
abbrev vi : Int → Value := Value.int .i64
abbrev pa (g o : Nat) : Value := .pointer (some ⟨g, o, none⟩)
abbrev ca (A : Option Addr) (n c : Nat) (p2 p3 p4 p5 p6 : Int) : Array Value := #[.slice A n c, .int .i64 p2, .int .i64 p3, .int .i64 p4, .int .i64 p5, .int .i64 p6]

section
variable {Ds : List Nat} {ro : Option Nat} {Q : Exit → Act → World → Prop} {a : Act} {w0 w : World} {B n : Nat} {ρ : Env} {ps : List HP}

theorem rg {id : Nat} {l : List Oper} {draw : Bool} {y : Code} (obs : List Ob) (orc : List (Option Value)) (ts : List Nat) (τ : Env) (hF : FrD Ds n ρ a) (hS : Sep w0 B w ps)
    (hob : ∀ b ∈ obs, b.holds Try.prog (fun w' => Sep w0 B w' ps) false) (hK : ∀ a' w', FrD Ds n τ a' → Sep w0 B w' ps → y.wpIn (RF ro) 9 Try.prog Q a' w')
    (hlex : (!draw || Region.lexB .any l.toArray) = true := by kernel_rfl) (hdst : dstOk n l = true := by kernel_rfl)
    (hev : (evR Try.prog l.toArray l orc ρ).map (fun x => (x.1.sel ts, x.2)) = some (τ, obs) := by kernel_rfl) : (Code.seq (Code.region id l.toArray draw) y).wpIn (RF ro) 9 Try.prog Q a w :=
  reg obs orc ts τ hF hS Fol hlex hdst hev hob hK
theorem rg1 {id : Nat} {l : List Oper} {draw : Bool} (obs : List Ob) (orc : List (Option Value)) (ts : List Nat) (τ : Env) (hF : FrD Ds n ρ a) (hS : Sep w0 B w ps)
    (hob : ∀ b ∈ obs, b.holds Try.prog (fun w' => Sep w0 B w' ps) false) (hK : ∀ a' w', FrD Ds n τ a' → Sep w0 B w' ps → Q .normal a' w')
    (hlex : (!draw || Region.lexB .any l.toArray) = true := by kernel_rfl) (hdst : dstOk n l = true := by kernel_rfl)
    (hev : (evR Try.prog l.toArray l orc ρ).map (fun x => (x.1.sel ts, x.2)) = some (τ, obs) := by kernel_rfl) : (Code.region id l.toArray draw).wpIn (RF ro) 9 Try.prog Q a w :=
  reg1 obs orc ts τ hF hS Fol hlex hdst hev hob hK
theorem ar {arr : Array Oper} {l : List Oper} {k : Nat} (m : Nat) (obs : List Ob) (orc : List (Option Value)) (ts : List Nat) (τ : Env) (hF : FrD Ds n ρ a) (hS : Sep w0 B w ps)
    (hob : ∀ b ∈ obs, b.holds Try.prog (fun w' => Sep w0 B w' ps) false) (hK : ∀ a' w', FrD Ds n τ a' → Sep w0 B w' ps → wpAt Try.prog arr l Q (k + m) a' w')
    (hdst : dstOk n ((l.drop k).take m) = true := by kernel_rfl) (hev : (evR Try.prog arr ((l.drop k).take m) orc ρ).map (fun x => (x.1.sel ts, x.2)) = some (τ, obs) := by kernel_rfl) : wpAt Try.prog arr l Q k a w :=
  at_run m obs orc ts τ hF hS hdst hev hob hK
theorem aw {arr : Array Oper} {l : List Oper} {k : Nat} (m : Nat) (obs : List Ob) (orc : List (Option Value)) (ts : List Nat) (τ : Env) (hF : FrD Ds n ρ a) (hS : Sep w0 B w ps)
    (hob : ∀ b ∈ obs, b.holds Try.prog (fun w' => Sep w0 B w' ps) true) (hK : ∀ a', FrD Ds n τ a' → wpAt Try.prog arr l Q (k + m) a' w)
    (hdst : dstOk n ((l.drop k).take m) = true := by kernel_rfl) (hev : (evR Try.prog arr ((l.drop k).take m) orc ρ).map (fun x => (x.1.sel ts, x.2)) = some (τ, obs) := by kernel_rfl) : wpAt Try.prog arr l Q k a w :=
  at_runW m obs orc ts τ hF hS hdst hev hob hK
theorem ad {arr : Array Oper} {l : List Oper} {k d : Nat} {s : Sem Next} {v : Value} {w' : World} (hF : FrD Ds n ρ a) (hrun : s.run Try.prog w = .ok (.value v) w')
    (hK : ∀ a', FrD Ds n (ρ.put (some d) [] v) a' → wpAt Try.prog arr l Q (k + 1) a' w') (hex : stepOf l k ρ = some (some d, s) := by kernel_rfl) (hcl : (ρ.clear d && decide (d < n)) = true := by kernel_rfl) : wpAt Try.prog arr l Q k a w :=
  at_do hF hex hcl hrun hK
theorem at_s {arr : Array Oper} {l : List Oper} {k : Nat} {s : Sem Next} {w' : World} (hF : FrD Ds n ρ a) (hrun : s.run Try.prog w = .ok .skip w') (hK : wpAt Try.prog arr l Q (k + 1) a w') (hex : stepOf l k ρ = some (none, s) := by kernel_rfl) : wpAt Try.prog arr l Q k a w :=
  at_skip hF hex hrun hK
theorem ae {arr : Array Oper} {l : List Oper} {k : Nat} (ts : List Nat) (τ : Env) (hF : FrD Ds n ρ a) (hk : l.drop k = []) (hK : FrD Ds n τ a → Q .normal a w) (he : ρ.sel ts = τ := by kernel_rfl) : wpAt Try.prog arr l Q k a w :=
  at_end ts τ hF hk he hK
theorem ce {t : Nat} {x y : Code} {b : Bool} (hF : FrD Ds n ρ a) (hT : b = true → x.wpIn (RF ro) 9 Try.prog Q a w) (hE : b = false → y.wpIn (RF ro) 9 Try.prog Q a w) (he : ρ.find t = some (pl t (.bool b)) := by kernel_rfl) : (Code.cond (.tmp t) x y).wpIn (RF ro) 9 Try.prog Q a w :=
  cond_ev hF he hT hE
theorem _root_.Go.GL.FrD.wk {τ : Env} (h : FrD Ds n ρ a) (ts : List Nat) (he : ρ.sel ts = τ := by kernel_rfl) : FrD Ds n τ a := h.weak ts he
theorem rv1 {P : Program} {t : Nat} {v : Value} (h : ρ.find t = some (pl t v) := by kernel_rfl) : RVals P ρ w [.tmp t] [v] := rv_t h rv_nil
theorem oA {C : World → Prop} {hyps : List (Bool × Bool)} {t : TypeId} {x : Bool} {a : Addr} {cs : Array Value} (h : (∀ y ∈ hyps, y.1 = y.2) → ∀ w, C w → ∀ (j : Nat) (v : Value), cs[j]? = some v → w.cell? (a.add j) = some v)
    (hag : runPure Try.prog (isAgg t) = some true := by kernel_rfl) (hsz : runPure Try.prog (sizeOf t) = some cs.size := by kernel_rfl) : Ob.holds Try.prog C x ⟨false, hyps, vS (Instr.loadAt t (.pointer (some a))), .agg cs⟩ :=
  ob_loadA hag hsz h
end

section
variable {Q : Exit → Act → World → Prop} {S : World → Prop} {l : List Oper} {a : Act} {w : World}
theorem aq {es : List Nat} {f : Nat} {listed : Array Bool} (ks : List Nat) (hK : ∀ i ∈ ks, opR Try.prog l.toArray (noPanic Q) i (TK Try.prog l Q S es f (listed.setIfInBounds i true) i w) a w)
    (hr : Region.ready .any l.toArray listed = ks := by kernel_rfl) (hne : ks.isEmpty = false := by rfl) : wpAnyG Try.prog l.toArray (noPanic Q) S (effT es) (f + 1) listed a w :=
  any_step ks hr hne hK
theorem ao {es : List Nat} {f i : Nat} {listed listed' : Array Bool} (h : wpAt Try.prog l.toArray (sel? l [i]) (keepK (TK Try.prog l Q S es f listed' i w) (noPanic Q)) 0 a w)
    (hl : listed = listed' := by kernel_rfl) (h1 : [l[i]?] = (sel? l [i]).map some := by kernel_rfl) : opR Try.prog l.toArray (noPanic Q) i (TK Try.prog l Q S es f listed i w) a w :=
  any_op hl h1 h
end
end Go.Proofs.Ytkpkkdpfcbnfdaa
