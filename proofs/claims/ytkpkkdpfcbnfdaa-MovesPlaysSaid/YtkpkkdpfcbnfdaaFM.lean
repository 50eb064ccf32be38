import Derived.Test.YtkpkkdpfcbnfdaaFB
import Derived.Test.YtkpkkdpfcbnfdaaLibAM
import Derived.Test.YtkpkkdpfcbnfdaaLibSt
import Derived.Test.YtkpkkdpfcbnfdaaLibKv
namespace Go.Proofs.Ytkpkkdpfcbnfdaa
open Go Go.GL Go.RowKit
theorem MZ3 (w : World) : (zeroValue 3).run Try.prog w = .ok ((Value.int .i64) (0 : Int)) w := by
 obtain ⟨i, hi, hz, hs, hb⟩ := info_parts Info3
 simp [zeroValue, typeInfo, hi, hz]
theorem UndM124 : Try.prog.underlying 124 = some (.map 122 3) := Try.underlying124
abbrev kf122 : KV 64 → Value := kV 64
theorem MK122 : MKey Try.prog 122 kf122 := MKey.kv (n := 64) (ta := 120) (ti := 3) Try.underlying122 (by kernel_rfl) Try.underlying120 Try.underlying3 rfl ⟨by decide, rfl, rfl⟩ ⟨by decide, rfl, rfl⟩ ⟨by decide, rfl, rfl⟩ ⟨by decide, rfl, rfl⟩ (by kernel_rfl) (by kernel_rfl) (by kernel_rfl) (by kernel_rfl)
theorem kfV122 (m : List Int) (a b c : Int) : kf122 (mkV 64 m, a, b, c) = .agg (List.toArray (([] : List Value) ++ (arr1 (Value.int .i64) (0 : Int) 64 m ++ ([.int .i64 a, .int .i64 b, .int .i64 c] : List Value)))) := kV_mk 64 m a b c
end Go.Proofs.Ytkpkkdpfcbnfdaa
