import Derived.Test.YtkpkkdpfcbnfdaaLibV
namespace Go.GL
open Go Go.RowKit
variable {Ds : List Nat} {ro : Option Nat}
section
variable {P : Program} {C : World → Prop} {hyps : List (Bool × Bool)} {t e : TypeId} {inf : TypeInfo} {A : Option Addr} {n c k9 : Nat}
end
end Go.GL
