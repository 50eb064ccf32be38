/-
  Models and walks, printed by our own program (wip/gen).
-/
import Derived.Test.YtlkdblflibgfpaaLibW
import Derived.Test.YtlkdblflibgfpaaProg
namespace Go.Proofs.Ytlkdblflibgfpaa
open Go Go.GL Go.RowKit


theorem Fol : Try.prog.follows .mixedOrders = true := by kernel_rfl
theorem Info1 : (Try.prog.info? 1).map (fun i => (i.zero, i.size, i.bytes)) = some (some (.nilFunc), 1, 8) := by kernel_rfl
theorem Agg1 : runPure Try.prog (isAgg 1) = some false := by kernel_rfl
theorem Info2 : (Try.prog.info? 2).map (fun i => (i.zero, i.size, i.bytes)) = some (some (.int .i64 0), 1, 8) := by kernel_rfl
theorem Agg2 : runPure Try.prog (isAgg 2) = some false := by kernel_rfl
theorem Info3 : (Try.prog.info? 3).map (fun i => (i.zero, i.size, i.bytes)) = some (some (.int .i64 0), 1, 8) := by kernel_rfl
theorem Agg3 : runPure Try.prog (isAgg 3) = some false := by kernel_rfl
theorem Info4 : (Try.prog.info? 4).map (fun i => (i.zero, i.size, i.bytes)) = some (some (.bool false), 1, 1) := by kernel_rfl
theorem Agg4 : runPure Try.prog (isAgg 4) = some false := by kernel_rfl
theorem Info5 : (Try.prog.info? 5).map (fun i => (i.zero, i.size, i.bytes)) = some (some (.int .u8 0), 1, 1) := by kernel_rfl
theorem Agg5 : runPure Try.prog (isAgg 5) = some false := by kernel_rfl
theorem Info6 : (Try.prog.info? 6).map (fun i => (i.zero, i.size, i.bytes)) = some (some (.int .u8 0), 1, 1) := by kernel_rfl
theorem Agg6 : runPure Try.prog (isAgg 6) = some false := by kernel_rfl
theorem Info7 : (Try.prog.info? 7).map (fun i => (i.zero, i.size, i.bytes)) = some (some (.agg #[.int .i64 0, .int .i64 0, .bool false, .int .u8 0]), 4, 24) := by kernel_rfl
theorem Info8 : (Try.prog.info? 8).map (fun i => (i.zero, i.size, i.bytes)) = some (some (.agg #[.int .i64 0, .int .i64 0, .bool false, .int .u8 0]), 4, 24) := by kernel_rfl
theorem Agg9 : runPure Try.prog (isAgg 9) = some false := by kernel_rfl
theorem Agg10 : runPure Try.prog (isAgg 10) = some false := by kernel_rfl
theorem Agg11 : runPure Try.prog (isAgg 11) = some false := by kernel_rfl
theorem Info12 : (Try.prog.info? 12).map (fun i => (i.zero, i.size, i.bytes)) = some (some (.int .u64 0), 1, 8) := by kernel_rfl
theorem Agg12 : runPure Try.prog (isAgg 12) = some false := by kernel_rfl
theorem Info13 : (Try.prog.info? 13).map (fun i => (i.zero, i.size, i.bytes)) = some (some (.agg #[.string ⟨#[]⟩, .int .u64 0]), 2, 24) := by kernel_rfl
theorem Info14 : (Try.prog.info? 14).map (fun i => (i.zero, i.size, i.bytes)) = some (some (.agg #[.string ⟨#[]⟩, .int .u64 0]), 2, 24) := by kernel_rfl
theorem Info15 : (Try.prog.info? 15).map (fun i => (i.zero, i.size, i.bytes)) = some (some (.pointer none), 1, 8) := by kernel_rfl
theorem Agg15 : runPure Try.prog (isAgg 15) = some false := by kernel_rfl
theorem Info16 : (Try.prog.info? 16).map (fun i => (i.zero, i.size, i.bytes)) = some (some (.pointer none), 1, 8) := by kernel_rfl
theorem Agg16 : runPure Try.prog (isAgg 16) = some false := by kernel_rfl
theorem Info17 : (Try.prog.info? 17).map (fun i => (i.zero, i.size, i.bytes)) = some (some (.pointer none), 1, 8) := by kernel_rfl
theorem Agg17 : runPure Try.prog (isAgg 17) = some false := by kernel_rfl
theorem Info18 : (Try.prog.info? 18).map (fun i => (i.zero, i.size, i.bytes)) = some (some (.agg #[.pointer none]), 1, 8) := by kernel_rfl
theorem Info19 : (Try.prog.info? 19).map (fun i => (i.zero, i.size, i.bytes)) = some (some (.agg #[.pointer none]), 1, 8) := by kernel_rfl
theorem Info21 : (Try.prog.info? 21).map (fun i => (i.zero, i.size, i.bytes)) = some (some (.int .i32 0), 1, 4) := by kernel_rfl
theorem Agg21 : runPure Try.prog (isAgg 21) = some false := by kernel_rfl
theorem Und22 : Try.prog.underlying 22 = some (.slice 3) := Try.underlying22
theorem Info22 : (Try.prog.info? 22).map (fun i => (i.zero, i.size, i.bytes)) = some (some (.slice none 0 0), 1, 24) := by kernel_rfl
theorem Agg22 : runPure Try.prog (isAgg 22) = some false := by kernel_rfl
theorem Info23 : (Try.prog.info? 23).map (fun i => (i.zero, i.size, i.bytes)) = some (some (.int .i64 0), 1, 8) := by kernel_rfl
theorem Agg23 : runPure Try.prog (isAgg 23) = some false := by kernel_rfl
theorem Info25 : (Try.prog.info? 25).map (fun i => (i.zero, i.size, i.bytes)) = some (some (.nilFunc), 1, 8) := by kernel_rfl
theorem Agg25 : runPure Try.prog (isAgg 25) = some false := by kernel_rfl
theorem Info26 : (Try.prog.info? 26).map (fun i => (i.zero, i.size, i.bytes)) = some (some (.nilFunc), 1, 8) := by kernel_rfl
theorem Agg26 : runPure Try.prog (isAgg 26) = some false := by kernel_rfl
theorem Info28 : (Try.prog.info? 28).map (fun i => (i.zero, i.size, i.bytes)) = some (some (.nilFunc), 1, 8) := by kernel_rfl
theorem Agg28 : runPure Try.prog (isAgg 28) = some false := by kernel_rfl
theorem Info29 : (Try.prog.info? 29).map (fun i => (i.zero, i.size, i.bytes)) = some (some (.nilFunc), 1, 8) := by kernel_rfl
theorem Agg29 : runPure Try.prog (isAgg 29) = some false := by kernel_rfl
theorem Info30 : (Try.prog.info? 30).map (fun i => (i.zero, i.size, i.bytes)) = some (some (.nilFunc), 1, 8) := by kernel_rfl
theorem Agg30 : runPure Try.prog (isAgg 30) = some false := by kernel_rfl
theorem Info31 : (Try.prog.info? 31).map (fun i => (i.zero, i.size, i.bytes)) = some (some (.nilFunc), 1, 8) := by kernel_rfl
theorem Agg31 : runPure Try.prog (isAgg 31) = some false := by kernel_rfl
theorem Info32 : (Try.prog.info? 32).map (fun i => (i.zero, i.size, i.bytes)) = some (some (.nilFunc), 1, 8) := by kernel_rfl
theorem Agg32 : runPure Try.prog (isAgg 32) = some false := by kernel_rfl
theorem Info33 : (Try.prog.info? 33).map (fun i => (i.zero, i.size, i.bytes)) = some (some (.nilFunc), 1, 8) := by kernel_rfl
theorem Agg33 : runPure Try.prog (isAgg 33) = some false := by kernel_rfl
theorem Info34 : (Try.prog.info? 34).map (fun i => (i.zero, i.size, i.bytes)) = some (some (.nilFunc), 1, 8) := by kernel_rfl
theorem Agg34 : runPure Try.prog (isAgg 34) = some false := by kernel_rfl
theorem Info36 : (Try.prog.info? 36).map (fun i => (i.zero, i.size, i.bytes)) = some (some (.nilFunc), 1, 8) := by kernel_rfl
theorem Agg36 : runPure Try.prog (isAgg 36) = some false := by kernel_rfl
theorem Info37 : (Try.prog.info? 37).map (fun i => (i.zero, i.size, i.bytes)) = some (some (.nilFunc), 1, 8) := by kernel_rfl
theorem Agg37 : runPure Try.prog (isAgg 37) = some false := by kernel_rfl
theorem Info38 : (Try.prog.info? 38).map (fun i => (i.zero, i.size, i.bytes)) = some (some (.nilFunc), 1, 8) := by kernel_rfl
theorem Agg38 : runPure Try.prog (isAgg 38) = some false := by kernel_rfl
theorem Info39 : (Try.prog.info? 39).map (fun i => (i.zero, i.size, i.bytes)) = some (some (.nilFunc), 1, 8) := by kernel_rfl
theorem Agg39 : runPure Try.prog (isAgg 39) = some false := by kernel_rfl
theorem Info40 : (Try.prog.info? 40).map (fun i => (i.zero, i.size, i.bytes)) = some (some (.agg #[.int .i64 0, .int .i64 0, .slice none 0 0]), 3, 40) := by kernel_rfl
theorem Info41 : (Try.prog.info? 41).map (fun i => (i.zero, i.size, i.bytes)) = some (some (.agg #[.int .i64 0, .int .i64 0, .slice none 0 0]), 3, 40) := by kernel_rfl
theorem Und42 : Try.prog.underlying 42 = some (.slice 54) := Try.underlying42
theorem Info42 : (Try.prog.info? 42).map (fun i => (i.zero, i.size, i.bytes)) = some (some (.slice none 0 0), 1, 24) := by kernel_rfl
theorem Agg42 : runPure Try.prog (isAgg 42) = some false := by kernel_rfl
theorem Info44 : (Try.prog.info? 44).map (fun i => (i.zero, i.size, i.bytes)) = some (some (.nilFunc), 1, 8) := by kernel_rfl
theorem Agg44 : runPure Try.prog (isAgg 44) = some false := by kernel_rfl
theorem Info45 : (Try.prog.info? 45).map (fun i => (i.zero, i.size, i.bytes)) = some (some (.nilFunc), 1, 8) := by kernel_rfl
theorem Agg45 : runPure Try.prog (isAgg 45) = some false := by kernel_rfl
theorem Info47 : (Try.prog.info? 47).map (fun i => (i.zero, i.size, i.bytes)) = some (some (.nilFunc), 1, 8) := by kernel_rfl
theorem Agg47 : runPure Try.prog (isAgg 47) = some false := by kernel_rfl
theorem Info48 : (Try.prog.info? 48).map (fun i => (i.zero, i.size, i.bytes)) = some (some (.nilFunc), 1, 8) := by kernel_rfl
theorem Agg48 : runPure Try.prog (isAgg 48) = some false := by kernel_rfl
theorem UndA49 : Try.prog.underlying 49 = some (.array 4 3) := Try.underlying49
theorem Info49 : (Try.prog.info? 49).map (fun i => (i.zero, i.size, i.bytes)) = some (some (.agg #[.int .i64 0, .int .i64 0, .int .i64 0, .int .i64 0]), 4, 32) := by kernel_rfl
theorem Info51 : (Try.prog.info? 51).map (fun i => (i.zero, i.size, i.bytes)) = some (some (.nilFunc), 1, 8) := by kernel_rfl
theorem Agg51 : runPure Try.prog (isAgg 51) = some false := by kernel_rfl
theorem Info52 : (Try.prog.info? 52).map (fun i => (i.zero, i.size, i.bytes)) = some (some (.nilFunc), 1, 8) := by kernel_rfl
theorem Agg52 : runPure Try.prog (isAgg 52) = some false := by kernel_rfl
theorem Info53 : (Try.prog.info? 53).map (fun i => (i.zero, i.size, i.bytes)) = some (some (.agg #[.int .i64 0, .int .i64 0, .int .i64 0]), 3, 24) := by kernel_rfl
theorem Info54 : (Try.prog.info? 54).map (fun i => (i.zero, i.size, i.bytes)) = some (some (.agg #[.int .i64 0, .int .i64 0, .int .i64 0]), 3, 24) := by kernel_rfl
theorem Info55 : (Try.prog.info? 55).map (fun i => (i.zero, i.size, i.bytes)) = some (some (.nilFunc), 1, 8) := by kernel_rfl
theorem Agg55 : runPure Try.prog (isAgg 55) = some false := by kernel_rfl
theorem Info56 : (Try.prog.info? 56).map (fun i => (i.zero, i.size, i.bytes)) = some (some (.nilFunc), 1, 8) := by kernel_rfl
theorem Agg56 : runPure Try.prog (isAgg 56) = some false := by kernel_rfl
theorem Info57 : (Try.prog.info? 57).map (fun i => (i.zero, i.size, i.bytes)) = some (some (.nilFunc), 1, 8) := by kernel_rfl
theorem Agg57 : runPure Try.prog (isAgg 57) = some false := by kernel_rfl
theorem Info58 : (Try.prog.info? 58).map (fun i => (i.zero, i.size, i.bytes)) = some (some (.nilFunc), 1, 8) := by kernel_rfl
theorem Agg58 : runPure Try.prog (isAgg 58) = some false := by kernel_rfl
theorem Info59 : (Try.prog.info? 59).map (fun i => (i.zero, i.size, i.bytes)) = some (some (.nilFunc), 1, 8) := by kernel_rfl
theorem Agg59 : runPure Try.prog (isAgg 59) = some false := by kernel_rfl
theorem Info60 : (Try.prog.info? 60).map (fun i => (i.zero, i.size, i.bytes)) = some (some (.nilFunc), 1, 8) := by kernel_rfl
theorem Agg60 : runPure Try.prog (isAgg 60) = some false := by kernel_rfl
theorem Info61 : (Try.prog.info? 61).map (fun i => (i.zero, i.size, i.bytes)) = some (some (.nilFunc), 1, 8) := by kernel_rfl
theorem Agg61 : runPure Try.prog (isAgg 61) = some false := by kernel_rfl
theorem Info62 : (Try.prog.info? 62).map (fun i => (i.zero, i.size, i.bytes)) = some (some (.nilFunc), 1, 8) := by kernel_rfl
theorem Agg62 : runPure Try.prog (isAgg 62) = some false := by kernel_rfl
theorem Info63 : (Try.prog.info? 63).map (fun i => (i.zero, i.size, i.bytes)) = some (some (.nilFunc), 1, 8) := by kernel_rfl
theorem Agg63 : runPure Try.prog (isAgg 63) = some false := by kernel_rfl
theorem Info64 : (Try.prog.info? 64).map (fun i => (i.zero, i.size, i.bytes)) = some (some (.nilFunc), 1, 8) := by kernel_rfl
theorem Agg64 : runPure Try.prog (isAgg 64) = some false := by kernel_rfl
theorem Info66 : (Try.prog.info? 66).map (fun i => (i.zero, i.size, i.bytes)) = some (some (.nilFunc), 1, 8) := by kernel_rfl
theorem Agg66 : runPure Try.prog (isAgg 66) = some false := by kernel_rfl
theorem Info67 : (Try.prog.info? 67).map (fun i => (i.zero, i.size, i.bytes)) = some (some (.nilFunc), 1, 8) := by kernel_rfl
theorem Agg67 : runPure Try.prog (isAgg 67) = some false := by kernel_rfl
theorem Info68 : (Try.prog.info? 68).map (fun i => (i.zero, i.size, i.bytes)) = some (some (.nilFunc), 1, 8) := by kernel_rfl
theorem Agg68 : runPure Try.prog (isAgg 68) = some false := by kernel_rfl
theorem UndA69 : Try.prog.underlying 69 = some (.array 2 3) := Try.underlying69
theorem Info69 : (Try.prog.info? 69).map (fun i => (i.zero, i.size, i.bytes)) = some (some (.agg #[.int .i64 0, .int .i64 0]), 2, 16) := by kernel_rfl
theorem Info71 : (Try.prog.info? 71).map (fun i => (i.zero, i.size, i.bytes)) = some (some (.nilFunc), 1, 8) := by kernel_rfl
theorem Agg71 : runPure Try.prog (isAgg 71) = some false := by kernel_rfl
theorem Info73 : (Try.prog.info? 73).map (fun i => (i.zero, i.size, i.bytes)) = some (some (.nilFunc), 1, 8) := by kernel_rfl
theorem Agg73 : runPure Try.prog (isAgg 73) = some false := by kernel_rfl
theorem Info74 : (Try.prog.info? 74).map (fun i => (i.zero, i.size, i.bytes)) = some (some (.nilFunc), 1, 8) := by kernel_rfl
theorem Agg74 : runPure Try.prog (isAgg 74) = some false := by kernel_rfl
theorem Info75 : (Try.prog.info? 75).map (fun i => (i.zero, i.size, i.bytes)) = some (some (.nilFunc), 1, 8) := by kernel_rfl
theorem Agg75 : runPure Try.prog (isAgg 75) = some false := by kernel_rfl
theorem Info76 : (Try.prog.info? 76).map (fun i => (i.zero, i.size, i.bytes)) = some (some (.nilFunc), 1, 8) := by kernel_rfl
theorem Agg76 : runPure Try.prog (isAgg 76) = some false := by kernel_rfl
theorem Info77 : (Try.prog.info? 77).map (fun i => (i.zero, i.size, i.bytes)) = some (some (.nilFunc), 1, 8) := by kernel_rfl
theorem Agg77 : runPure Try.prog (isAgg 77) = some false := by kernel_rfl
theorem Info78 : (Try.prog.info? 78).map (fun i => (i.zero, i.size, i.bytes)) = some (some (.nilFunc), 1, 8) := by kernel_rfl
theorem Agg78 : runPure Try.prog (isAgg 78) = some false := by kernel_rfl
theorem Info79 : (Try.prog.info? 79).map (fun i => (i.zero, i.size, i.bytes)) = some (some (.nilFunc), 1, 8) := by kernel_rfl
theorem Agg79 : runPure Try.prog (isAgg 79) = some false := by kernel_rfl
theorem Info80 : (Try.prog.info? 80).map (fun i => (i.zero, i.size, i.bytes)) = some (some (.nilFunc), 1, 8) := by kernel_rfl
theorem Agg80 : runPure Try.prog (isAgg 80) = some false := by kernel_rfl
theorem Info81 : (Try.prog.info? 81).map (fun i => (i.zero, i.size, i.bytes)) = some (some (.nilFunc), 1, 8) := by kernel_rfl
theorem Agg81 : runPure Try.prog (isAgg 81) = some false := by kernel_rfl
theorem Info83 : (Try.prog.info? 83).map (fun i => (i.zero, i.size, i.bytes)) = some (some (.nilFunc), 1, 8) := by kernel_rfl
theorem Agg83 : runPure Try.prog (isAgg 83) = some false := by kernel_rfl
theorem Info84 : (Try.prog.info? 84).map (fun i => (i.zero, i.size, i.bytes)) = some (some (.nilFunc), 1, 8) := by kernel_rfl
theorem Agg84 : runPure Try.prog (isAgg 84) = some false := by kernel_rfl
theorem Info85 : (Try.prog.info? 85).map (fun i => (i.zero, i.size, i.bytes)) = some (some (.nilFunc), 1, 8) := by kernel_rfl
theorem Agg85 : runPure Try.prog (isAgg 85) = some false := by kernel_rfl
theorem Info86 : (Try.prog.info? 86).map (fun i => (i.zero, i.size, i.bytes)) = some (some (.nilFunc), 1, 8) := by kernel_rfl
theorem Agg86 : runPure Try.prog (isAgg 86) = some false := by kernel_rfl
theorem Und87 : Try.prog.underlying 87 = some (.slice 41) := Try.underlying87
theorem Info87 : (Try.prog.info? 87).map (fun i => (i.zero, i.size, i.bytes)) = some (some (.slice none 0 0), 1, 24) := by kernel_rfl
theorem Agg87 : runPure Try.prog (isAgg 87) = some false := by kernel_rfl
theorem Info89 : (Try.prog.info? 89).map (fun i => (i.zero, i.size, i.bytes)) = some (some (.nilFunc), 1, 8) := by kernel_rfl
theorem Agg89 : runPure Try.prog (isAgg 89) = some false := by kernel_rfl
theorem Info90 : (Try.prog.info? 90).map (fun i => (i.zero, i.size, i.bytes)) = some (some (.nilFunc), 1, 8) := by kernel_rfl
theorem Agg90 : runPure Try.prog (isAgg 90) = some false := by kernel_rfl
theorem Info91 : (Try.prog.info? 91).map (fun i => (i.zero, i.size, i.bytes)) = some (some (.nilFunc), 1, 8) := by kernel_rfl
theorem Agg91 : runPure Try.prog (isAgg 91) = some false := by kernel_rfl
theorem Info92 : (Try.prog.info? 92).map (fun i => (i.zero, i.size, i.bytes)) = some (some (.agg #[.slice none 0 0, .int .i64 0, .int .i64 0, .int .i64 0]), 4, 48) := by kernel_rfl
theorem Info93 : (Try.prog.info? 93).map (fun i => (i.zero, i.size, i.bytes)) = some (some (.agg #[.slice none 0 0, .int .i64 0, .int .i64 0, .int .i64 0]), 4, 48) := by kernel_rfl
theorem Und94 : Try.prog.underlying 94 = some (.slice 93) := Try.underlying94
theorem Info94 : (Try.prog.info? 94).map (fun i => (i.zero, i.size, i.bytes)) = some (some (.slice none 0 0), 1, 24) := by kernel_rfl
theorem Agg94 : runPure Try.prog (isAgg 94) = some false := by kernel_rfl
theorem Info96 : (Try.prog.info? 96).map (fun i => (i.zero, i.size, i.bytes)) = some (some (.nilFunc), 1, 8) := by kernel_rfl
theorem Agg96 : runPure Try.prog (isAgg 96) = some false := by kernel_rfl
theorem Info97 : (Try.prog.info? 97).map (fun i => (i.zero, i.size, i.bytes)) = some (some (.nilFunc), 1, 8) := by kernel_rfl
theorem Agg97 : runPure Try.prog (isAgg 97) = some false := by kernel_rfl
theorem Info98 : (Try.prog.info? 98).map (fun i => (i.zero, i.size, i.bytes)) = some (some (.nilFunc), 1, 8) := by kernel_rfl
theorem Agg98 : runPure Try.prog (isAgg 98) = some false := by kernel_rfl
theorem Info99 : (Try.prog.info? 99).map (fun i => (i.zero, i.size, i.bytes)) = some (some (.nilFunc), 1, 8) := by kernel_rfl
theorem Agg99 : runPure Try.prog (isAgg 99) = some false := by kernel_rfl
theorem Info100 : (Try.prog.info? 100).map (fun i => (i.zero, i.size, i.bytes)) = some (some (.nilFunc), 1, 8) := by kernel_rfl
theorem Agg100 : runPure Try.prog (isAgg 100) = some false := by kernel_rfl
theorem Info101 : (Try.prog.info? 101).map (fun i => (i.zero, i.size, i.bytes)) = some (some (.nilFunc), 1, 8) := by kernel_rfl
theorem Agg101 : runPure Try.prog (isAgg 101) = some false := by kernel_rfl
theorem Info102 : (Try.prog.info? 102).map (fun i => (i.zero, i.size, i.bytes)) = some (some (.agg #[.slice none 0 0, .int .i64 0]), 2, 32) := by kernel_rfl
theorem Info103 : (Try.prog.info? 103).map (fun i => (i.zero, i.size, i.bytes)) = some (some (.agg #[.slice none 0 0, .int .i64 0]), 2, 32) := by kernel_rfl
theorem Info104 : (Try.prog.info? 104).map (fun i => (i.zero, i.size, i.bytes)) = some (some (.nilFunc), 1, 8) := by kernel_rfl
theorem Agg104 : runPure Try.prog (isAgg 104) = some false := by kernel_rfl
theorem Info105 : (Try.prog.info? 105).map (fun i => (i.zero, i.size, i.bytes)) = some (some (.nilFunc), 1, 8) := by kernel_rfl
theorem Agg105 : runPure Try.prog (isAgg 105) = some false := by kernel_rfl
theorem Und106 : Try.prog.underlying 106 = some (.slice 22) := Try.underlying106
theorem Info106 : (Try.prog.info? 106).map (fun i => (i.zero, i.size, i.bytes)) = some (some (.slice none 0 0), 1, 24) := by kernel_rfl
theorem Agg106 : runPure Try.prog (isAgg 106) = some false := by kernel_rfl
theorem Info108 : (Try.prog.info? 108).map (fun i => (i.zero, i.size, i.bytes)) = some (some (.nilFunc), 1, 8) := by kernel_rfl
theorem Agg108 : runPure Try.prog (isAgg 108) = some false := by kernel_rfl
theorem Info109 : (Try.prog.info? 109).map (fun i => (i.zero, i.size, i.bytes)) = some (some (.nilFunc), 1, 8) := by kernel_rfl
theorem Agg109 : runPure Try.prog (isAgg 109) = some false := by kernel_rfl
theorem Info110 : (Try.prog.info? 110).map (fun i => (i.zero, i.size, i.bytes)) = some (some (.nilFunc), 1, 8) := by kernel_rfl
theorem Agg110 : runPure Try.prog (isAgg 110) = some false := by kernel_rfl
theorem Info111 : (Try.prog.info? 111).map (fun i => (i.zero, i.size, i.bytes)) = some (some (.nilFunc), 1, 8) := by kernel_rfl
theorem Agg111 : runPure Try.prog (isAgg 111) = some false := by kernel_rfl
theorem Info112 : (Try.prog.info? 112).map (fun i => (i.zero, i.size, i.bytes)) = some (some (.nilFunc), 1, 8) := by kernel_rfl
theorem Agg112 : runPure Try.prog (isAgg 112) = some false := by kernel_rfl
theorem Info114 : (Try.prog.info? 114).map (fun i => (i.zero, i.size, i.bytes)) = some (some (.nilFunc), 1, 8) := by kernel_rfl
theorem Agg114 : runPure Try.prog (isAgg 114) = some false := by kernel_rfl
theorem Info116 : (Try.prog.info? 116).map (fun i => (i.zero, i.size, i.bytes)) = some (some (.nilFunc), 1, 8) := by kernel_rfl
theorem Agg116 : runPure Try.prog (isAgg 116) = some false := by kernel_rfl
theorem Und117 : Try.prog.underlying 117 = some (.slice 4) := Try.underlying117
theorem Info117 : (Try.prog.info? 117).map (fun i => (i.zero, i.size, i.bytes)) = some (some (.slice none 0 0), 1, 24) := by kernel_rfl
theorem Agg117 : runPure Try.prog (isAgg 117) = some false := by kernel_rfl
theorem Info118 : (Try.prog.info? 118).map (fun i => (i.zero, i.size, i.bytes)) = some (some (.nilFunc), 1, 8) := by kernel_rfl
theorem Agg118 : runPure Try.prog (isAgg 118) = some false := by kernel_rfl
theorem Info119 : (Try.prog.info? 119).map (fun i => (i.zero, i.size, i.bytes)) = some (some (.nilFunc), 1, 8) := by kernel_rfl
theorem Agg119 : runPure Try.prog (isAgg 119) = some false := by kernel_rfl
theorem Info120 : (Try.prog.info? 120).map (fun i => (i.zero, i.size, i.bytes)) = some (some (.nilFunc), 1, 8) := by kernel_rfl
theorem Agg120 : runPure Try.prog (isAgg 120) = some false := by kernel_rfl
theorem Info121 : (Try.prog.info? 121).map (fun i => (i.zero, i.size, i.bytes)) = some (some (.nilFunc), 1, 8) := by kernel_rfl
theorem Agg121 : runPure Try.prog (isAgg 121) = some false := by kernel_rfl
theorem Info122 : (Try.prog.info? 122).map (fun i => (i.zero, i.size, i.bytes)) = some (some (.nilFunc), 1, 8) := by kernel_rfl
theorem Agg122 : runPure Try.prog (isAgg 122) = some false := by kernel_rfl
theorem Info123 : (Try.prog.info? 123).map (fun i => (i.zero, i.size, i.bytes)) = some (some (.nilFunc), 1, 8) := by kernel_rfl
theorem Agg123 : runPure Try.prog (isAgg 123) = some false := by kernel_rfl
theorem Info124 : (Try.prog.info? 124).map (fun i => (i.zero, i.size, i.bytes)) = some (some (.nilFunc), 1, 8) := by kernel_rfl
theorem Agg124 : runPure Try.prog (isAgg 124) = some false := by kernel_rfl
theorem Und125 : Try.prog.underlying 125 = some (.slice 128) := Try.underlying125
theorem Info125 : (Try.prog.info? 125).map (fun i => (i.zero, i.size, i.bytes)) = some (some (.slice none 0 0), 1, 24) := by kernel_rfl
theorem Agg125 : runPure Try.prog (isAgg 125) = some false := by kernel_rfl
theorem Info126 : (Try.prog.info? 126).map (fun i => (i.zero, i.size, i.bytes)) = some (some (.nilFunc), 1, 8) := by kernel_rfl
theorem Agg126 : runPure Try.prog (isAgg 126) = some false := by kernel_rfl
theorem Info127 : (Try.prog.info? 127).map (fun i => (i.zero, i.size, i.bytes)) = some (some (.agg #[.int .i64 0, .int .i64 0, .int .i64 0]), 3, 24) := by kernel_rfl
theorem Info128 : (Try.prog.info? 128).map (fun i => (i.zero, i.size, i.bytes)) = some (some (.agg #[.int .i64 0, .int .i64 0, .int .i64 0]), 3, 24) := by kernel_rfl
theorem Info129 : (Try.prog.info? 129).map (fun i => (i.zero, i.size, i.bytes)) = some (some (.nilFunc), 1, 8) := by kernel_rfl
theorem Agg129 : runPure Try.prog (isAgg 129) = some false := by kernel_rfl
theorem Info130 : (Try.prog.info? 130).map (fun i => (i.zero, i.size, i.bytes)) = some (some (.nilFunc), 1, 8) := by kernel_rfl
theorem Agg130 : runPure Try.prog (isAgg 130) = some false := by kernel_rfl
theorem Info131 : (Try.prog.info? 131).map (fun i => (i.zero, i.size, i.bytes)) = some (some (.nilFunc), 1, 8) := by kernel_rfl
theorem Agg131 : runPure Try.prog (isAgg 131) = some false := by kernel_rfl
theorem Info132 : (Try.prog.info? 132).map (fun i => (i.zero, i.size, i.bytes)) = some (some (.nilFunc), 1, 8) := by kernel_rfl
theorem Agg132 : runPure Try.prog (isAgg 132) = some false := by kernel_rfl
theorem Info133 : (Try.prog.info? 133).map (fun i => (i.zero, i.size, i.bytes)) = some (some (.nilFunc), 1, 8) := by kernel_rfl
theorem Agg133 : runPure Try.prog (isAgg 133) = some false := by kernel_rfl
theorem Info134 : (Try.prog.info? 134).map (fun i => (i.zero, i.size, i.bytes)) = some (some (.nilFunc), 1, 8) := by kernel_rfl
theorem Agg134 : runPure Try.prog (isAgg 134) = some false := by kernel_rfl
theorem Info135 : (Try.prog.info? 135).map (fun i => (i.zero, i.size, i.bytes)) = some (some (.nilFunc), 1, 8) := by kernel_rfl
theorem Agg135 : runPure Try.prog (isAgg 135) = some false := by kernel_rfl
theorem Info136 : (Try.prog.info? 136).map (fun i => (i.zero, i.size, i.bytes)) = some (some (.nilFunc), 1, 8) := by kernel_rfl
theorem Agg136 : runPure Try.prog (isAgg 136) = some false := by kernel_rfl
theorem Info137 : (Try.prog.info? 137).map (fun i => (i.zero, i.size, i.bytes)) = some (some (.pointer none), 1, 8) := by kernel_rfl
theorem Agg137 : runPure Try.prog (isAgg 137) = some false := by kernel_rfl
theorem Info138 : (Try.prog.info? 138).map (fun i => (i.zero, i.size, i.bytes)) = some (some (.nilFunc), 1, 8) := by kernel_rfl
theorem Agg138 : runPure Try.prog (isAgg 138) = some false := by kernel_rfl
theorem Info139 : (Try.prog.info? 139).map (fun i => (i.zero, i.size, i.bytes)) = some (some (.agg #[.int .i64 0, .int .i64 0, .slice none 0 0, .int .i64 0]), 4, 48) := by kernel_rfl
theorem Info140 : (Try.prog.info? 140).map (fun i => (i.zero, i.size, i.bytes)) = some (some (.agg #[.int .i64 0, .int .i64 0, .slice none 0 0, .int .i64 0]), 4, 48) := by kernel_rfl
theorem Info141 : (Try.prog.info? 141).map (fun i => (i.zero, i.size, i.bytes)) = some (some (.map none), 1, 8) := by kernel_rfl
theorem Agg141 : runPure Try.prog (isAgg 141) = some false := by kernel_rfl
theorem Info142 : (Try.prog.info? 142).map (fun i => (i.zero, i.size, i.bytes)) = some (some (.map none), 1, 8) := by kernel_rfl
theorem Agg142 : runPure Try.prog (isAgg 142) = some false := by kernel_rfl
theorem Info143 : (Try.prog.info? 143).map (fun i => (i.zero, i.size, i.bytes)) = some (some (.nilFunc), 1, 8) := by kernel_rfl
theorem Agg143 : runPure Try.prog (isAgg 143) = some false := by kernel_rfl
theorem Info145 : (Try.prog.info? 145).map (fun i => (i.zero, i.size, i.bytes)) = some (some (.nilFunc), 1, 8) := by kernel_rfl
theorem Agg145 : runPure Try.prog (isAgg 145) = some false := by kernel_rfl
theorem Und146 : Try.prog.underlying 146 = some (.slice 148) := Try.underlying146
theorem Info146 : (Try.prog.info? 146).map (fun i => (i.zero, i.size, i.bytes)) = some (some (.slice none 0 0), 1, 24) := by kernel_rfl
theorem Agg146 : runPure Try.prog (isAgg 146) = some false := by kernel_rfl
theorem Info147 : (Try.prog.info? 147).map (fun i => (i.zero, i.size, i.bytes)) = some (some (.nilFunc), 1, 8) := by kernel_rfl
theorem Agg147 : runPure Try.prog (isAgg 147) = some false := by kernel_rfl
theorem Info148 : (Try.prog.info? 148).map (fun i => (i.zero, i.size, i.bytes)) = some (some (.pointer none), 1, 8) := by kernel_rfl
theorem Agg148 : runPure Try.prog (isAgg 148) = some false := by kernel_rfl
theorem Info149 : (Try.prog.info? 149).map (fun i => (i.zero, i.size, i.bytes)) = some (some (.agg #[.slice none 0 0, .slice none 0 0, .bool false]), 3, 56) := by kernel_rfl
theorem Info150 : (Try.prog.info? 150).map (fun i => (i.zero, i.size, i.bytes)) = some (some (.agg #[.slice none 0 0, .slice none 0 0, .bool false]), 3, 56) := by kernel_rfl
theorem Info151 : (Try.prog.info? 151).map (fun i => (i.zero, i.size, i.bytes)) = some (some (.nilFunc), 1, 8) := by kernel_rfl
theorem Agg151 : runPure Try.prog (isAgg 151) = some false := by kernel_rfl
theorem Info152 : (Try.prog.info? 152).map (fun i => (i.zero, i.size, i.bytes)) = some (some (.nilFunc), 1, 8) := by kernel_rfl
theorem Agg152 : runPure Try.prog (isAgg 152) = some false := by kernel_rfl
theorem Info153 : (Try.prog.info? 153).map (fun i => (i.zero, i.size, i.bytes)) = some (some (.nilFunc), 1, 8) := by kernel_rfl
theorem Agg153 : runPure Try.prog (isAgg 153) = some false := by kernel_rfl
theorem Info154 : (Try.prog.info? 154).map (fun i => (i.zero, i.size, i.bytes)) = some (some (.nilFunc), 1, 8) := by kernel_rfl
theorem Agg154 : runPure Try.prog (isAgg 154) = some false := by kernel_rfl
theorem Info155 : (Try.prog.info? 155).map (fun i => (i.zero, i.size, i.bytes)) = some (some (.nilFunc), 1, 8) := by kernel_rfl
theorem Agg155 : runPure Try.prog (isAgg 155) = some false := by kernel_rfl
theorem Info156 : (Try.prog.info? 156).map (fun i => (i.zero, i.size, i.bytes)) = some (some (.pointer none), 1, 8) := by kernel_rfl
theorem Agg156 : runPure Try.prog (isAgg 156) = some false := by kernel_rfl
theorem Info157 : (Try.prog.info? 157).map (fun i => (i.zero, i.size, i.bytes)) = some (some (.nilFunc), 1, 8) := by kernel_rfl
theorem Agg157 : runPure Try.prog (isAgg 157) = some false := by kernel_rfl
theorem Info158 : (Try.prog.info? 158).map (fun i => (i.zero, i.size, i.bytes)) = some (some (.nilFunc), 1, 8) := by kernel_rfl
theorem Agg158 : runPure Try.prog (isAgg 158) = some false := by kernel_rfl
theorem Info159 : (Try.prog.info? 159).map (fun i => (i.zero, i.size, i.bytes)) = some (some (.map none), 1, 8) := by kernel_rfl
theorem Agg159 : runPure Try.prog (isAgg 159) = some false := by kernel_rfl
theorem Info160 : (Try.prog.info? 160).map (fun i => (i.zero, i.size, i.bytes)) = some (some (.agg #[.slice none 0 0, .slice none 0 0, .map none]), 3, 56) := by kernel_rfl
theorem Info161 : (Try.prog.info? 161).map (fun i => (i.zero, i.size, i.bytes)) = some (some (.agg #[.slice none 0 0, .slice none 0 0, .map none]), 3, 56) := by kernel_rfl
theorem Info162 : (Try.prog.info? 162).map (fun i => (i.zero, i.size, i.bytes)) = some (some (.nilFunc), 1, 8) := by kernel_rfl
theorem Agg162 : runPure Try.prog (isAgg 162) = some false := by kernel_rfl
theorem Info163 : (Try.prog.info? 163).map (fun i => (i.zero, i.size, i.bytes)) = some (some (.nilFunc), 1, 8) := by kernel_rfl
theorem Agg163 : runPure Try.prog (isAgg 163) = some false := by kernel_rfl
theorem Und164 : Try.prog.underlying 164 = some (.slice 137) := Try.underlying164
theorem Info164 : (Try.prog.info? 164).map (fun i => (i.zero, i.size, i.bytes)) = some (some (.slice none 0 0), 1, 24) := by kernel_rfl
theorem Agg164 : runPure Try.prog (isAgg 164) = some false := by kernel_rfl
theorem Info165 : (Try.prog.info? 165).map (fun i => (i.zero, i.size, i.bytes)) = some (some (.map none), 1, 8) := by kernel_rfl
theorem Agg165 : runPure Try.prog (isAgg 165) = some false := by kernel_rfl
theorem UndA166 : Try.prog.underlying 166 = some (.array 6 3) := Try.underlying166
theorem Info166 : (Try.prog.info? 166).map (fun i => (i.zero, i.size, i.bytes)) = some (some (.agg #[.int .i64 0, .int .i64 0, .int .i64 0, .int .i64 0, .int .i64 0, .int .i64 0]), 6, 48) := by kernel_rfl
theorem UndA167 : Try.prog.underlying 167 = some (.array 6 3) := Try.underlying167
theorem Info167 : (Try.prog.info? 167).map (fun i => (i.zero, i.size, i.bytes)) = some (some (.agg #[.int .i64 0, .int .i64 0, .int .i64 0, .int .i64 0, .int .i64 0, .int .i64 0]), 6, 48) := by kernel_rfl
theorem Info168 : (Try.prog.info? 168).map (fun i => (i.zero, i.size, i.bytes)) = some (some (.nilFunc), 1, 8) := by kernel_rfl
theorem Agg168 : runPure Try.prog (isAgg 168) = some false := by kernel_rfl
theorem Info169 : (Try.prog.info? 169).map (fun i => (i.zero, i.size, i.bytes)) = some (some (.nilFunc), 1, 8) := by kernel_rfl
theorem Agg169 : runPure Try.prog (isAgg 169) = some false := by kernel_rfl
theorem Info170 : (Try.prog.info? 170).map (fun i => (i.zero, i.size, i.bytes)) = some (some (.map none), 1, 8) := by kernel_rfl
theorem Agg170 : runPure Try.prog (isAgg 170) = some false := by kernel_rfl
theorem UndA171 : Try.prog.underlying 171 = some (.array 26 3) := Try.underlying171
theorem Info171 : (Try.prog.info? 171).map (fun i => (i.zero, i.size, i.bytes)) = some (some (.agg #[.int .i64 0, .int .i64 0, .int .i64 0, .int .i64 0, .int .i64 0, .int .i64 0, .int .i64 0, .int .i64 0, .int .i64 0, .int .i64 0, .int .i64 0, .int .i64 0, .int .i64 0, .int .i64 0, .int .i64 0, .int .i64 0, .int .i64 0, .int .i64 0, .int .i64 0, .int .i64 0, .int .i64 0, .int .i64 0, .int .i64 0, .int .i64 0, .int .i64 0, .int .i64 0]), 26, 208) := by kernel_rfl
theorem Info172 : (Try.prog.info? 172).map (fun i => (i.zero, i.size, i.bytes)) = some (some (.agg #[.int .i64 0, .int .i64 0, .int .i64 0, .int .i64 0, .int .i64 0, .int .i64 0, .int .i64 0, .int .i64 0, .int .i64 0, .int .i64 0, .int .i64 0, .int .i64 0, .int .i64 0, .int .i64 0, .int .i64 0, .int .i64 0, .int .i64 0, .int .i64 0, .int .i64 0, .int .i64 0, .int .i64 0, .int .i64 0, .int .i64 0, .int .i64 0, .int .i64 0, .int .i64 0, .int .i64 0]), 27, 216) := by kernel_rfl
theorem Info173 : (Try.prog.info? 173).map (fun i => (i.zero, i.size, i.bytes)) = some (some (.agg #[.int .i64 0, .int .i64 0, .int .i64 0, .int .i64 0, .int .i64 0, .int .i64 0, .int .i64 0, .int .i64 0, .int .i64 0, .int .i64 0, .int .i64 0, .int .i64 0, .int .i64 0, .int .i64 0, .int .i64 0, .int .i64 0, .int .i64 0, .int .i64 0, .int .i64 0, .int .i64 0, .int .i64 0, .int .i64 0, .int .i64 0, .int .i64 0, .int .i64 0, .int .i64 0, .int .i64 0]), 27, 216) := by kernel_rfl
theorem Info174 : (Try.prog.info? 174).map (fun i => (i.zero, i.size, i.bytes)) = some (some (.nilFunc), 1, 8) := by kernel_rfl
theorem Agg174 : runPure Try.prog (isAgg 174) = some false := by kernel_rfl
theorem Info175 : (Try.prog.info? 175).map (fun i => (i.zero, i.size, i.bytes)) = some (some (.nilFunc), 1, 8) := by kernel_rfl
theorem Agg175 : runPure Try.prog (isAgg 175) = some false := by kernel_rfl
theorem Info176 : (Try.prog.info? 176).map (fun i => (i.zero, i.size, i.bytes)) = some (some (.agg #[.int .i64 0, .bool false]), 2, 16) := by kernel_rfl
theorem Info177 : (Try.prog.info? 177).map (fun i => (i.zero, i.size, i.bytes)) = some (some (.agg #[.int .i64 0, .bool false]), 2, 16) := by kernel_rfl
theorem Info178 : (Try.prog.info? 178).map (fun i => (i.zero, i.size, i.bytes)) = some (some (.map none), 1, 8) := by kernel_rfl
theorem Agg178 : runPure Try.prog (isAgg 178) = some false := by kernel_rfl
theorem Info179 : (Try.prog.info? 179).map (fun i => (i.zero, i.size, i.bytes)) = some (some (.nilFunc), 1, 8) := by kernel_rfl
theorem Agg179 : runPure Try.prog (isAgg 179) = some false := by kernel_rfl
theorem Info180 : (Try.prog.info? 180).map (fun i => (i.zero, i.size, i.bytes)) = some (some (.nilFunc), 1, 8) := by kernel_rfl
theorem Agg180 : runPure Try.prog (isAgg 180) = some false := by kernel_rfl
theorem Info181 : (Try.prog.info? 181).map (fun i => (i.zero, i.size, i.bytes)) = some (some (.nilFunc), 1, 8) := by kernel_rfl
theorem Agg181 : runPure Try.prog (isAgg 181) = some false := by kernel_rfl
theorem Info182 : (Try.prog.info? 182).map (fun i => (i.zero, i.size, i.bytes)) = some (some (.nilFunc), 1, 8) := by kernel_rfl
theorem Agg182 : runPure Try.prog (isAgg 182) = some false := by kernel_rfl
theorem Info183 : (Try.prog.info? 183).map (fun i => (i.zero, i.size, i.bytes)) = some (some (.nilFunc), 1, 8) := by kernel_rfl
theorem Agg183 : runPure Try.prog (isAgg 183) = some false := by kernel_rfl
theorem Info184 : (Try.prog.info? 184).map (fun i => (i.zero, i.size, i.bytes)) = some (some (.nilFunc), 1, 8) := by kernel_rfl
theorem Agg184 : runPure Try.prog (isAgg 184) = some false := by kernel_rfl
theorem Info185 : (Try.prog.info? 185).map (fun i => (i.zero, i.size, i.bytes)) = some (some (.nilFunc), 1, 8) := by kernel_rfl
theorem Agg185 : runPure Try.prog (isAgg 185) = some false := by kernel_rfl
theorem UndA186 : Try.prog.underlying 186 = some (.array 3 3) := Try.underlying186
theorem Info186 : (Try.prog.info? 186).map (fun i => (i.zero, i.size, i.bytes)) = some (some (.agg #[.int .i64 0, .int .i64 0, .int .i64 0]), 3, 24) := by kernel_rfl
theorem Info187 : (Try.prog.info? 187).map (fun i => (i.zero, i.size, i.bytes)) = some (some (.pointer none), 1, 8) := by kernel_rfl
theorem Agg187 : runPure Try.prog (isAgg 187) = some false := by kernel_rfl
theorem Info188 : (Try.prog.info? 188).map (fun i => (i.zero, i.size, i.bytes)) = some (some (.nilFunc), 1, 8) := by kernel_rfl
theorem Agg188 : runPure Try.prog (isAgg 188) = some false := by kernel_rfl
theorem Info189 : (Try.prog.info? 189).map (fun i => (i.zero, i.size, i.bytes)) = some (some (.nilFunc), 1, 8) := by kernel_rfl
theorem Agg189 : runPure Try.prog (isAgg 189) = some false := by kernel_rfl
theorem Info190 : (Try.prog.info? 190).map (fun i => (i.zero, i.size, i.bytes)) = some (some (.nilFunc), 1, 8) := by kernel_rfl
theorem Agg190 : runPure Try.prog (isAgg 190) = some false := by kernel_rfl
theorem Info191 : (Try.prog.info? 191).map (fun i => (i.zero, i.size, i.bytes)) = some (some (.nilFunc), 1, 8) := by kernel_rfl
theorem Agg191 : runPure Try.prog (isAgg 191) = some false := by kernel_rfl
theorem Info192 : (Try.prog.info? 192).map (fun i => (i.zero, i.size, i.bytes)) = some (some (.nilFunc), 1, 8) := by kernel_rfl
theorem Agg192 : runPure Try.prog (isAgg 192) = some false := by kernel_rfl
theorem Info193 : (Try.prog.info? 193).map (fun i => (i.zero, i.size, i.bytes)) = some (some (.nilFunc), 1, 8) := by kernel_rfl
theorem Agg193 : runPure Try.prog (isAgg 193) = some false := by kernel_rfl
theorem Info194 : (Try.prog.info? 194).map (fun i => (i.zero, i.size, i.bytes)) = some (some (.nilFunc), 1, 8) := by kernel_rfl
theorem Agg194 : runPure Try.prog (isAgg 194) = some false := by kernel_rfl
theorem UndA195 : Try.prog.underlying 195 = some (.array 4 69) := Try.underlying195
theorem Info195 : (Try.prog.info? 195).map (fun i => (i.zero, i.size, i.bytes)) = some (some (.agg #[.int .i64 0, .int .i64 0, .int .i64 0, .int .i64 0, .int .i64 0, .int .i64 0, .int .i64 0, .int .i64 0]), 8, 64) := by kernel_rfl
theorem Info196 : (Try.prog.info? 196).map (fun i => (i.zero, i.size, i.bytes)) = some (some (.nilFunc), 1, 8) := by kernel_rfl
theorem Agg196 : runPure Try.prog (isAgg 196) = some false := by kernel_rfl
theorem Info197 : (Try.prog.info? 197).map (fun i => (i.zero, i.size, i.bytes)) = some (some (.nilFunc), 1, 8) := by kernel_rfl
theorem Agg197 : runPure Try.prog (isAgg 197) = some false := by kernel_rfl
theorem Info198 : (Try.prog.info? 198).map (fun i => (i.zero, i.size, i.bytes)) = some (some (.nilFunc), 1, 8) := by kernel_rfl
theorem Agg198 : runPure Try.prog (isAgg 198) = some false := by kernel_rfl
theorem Und199 : Try.prog.underlying 199 = some (.slice 5) := Try.underlying199
theorem Info199 : (Try.prog.info? 199).map (fun i => (i.zero, i.size, i.bytes)) = some (some (.slice none 0 0), 1, 24) := by kernel_rfl
theorem Agg199 : runPure Try.prog (isAgg 199) = some false := by kernel_rfl
theorem Info200 : (Try.prog.info? 200).map (fun i => (i.zero, i.size, i.bytes)) = some (some (.nilFunc), 1, 8) := by kernel_rfl
theorem Agg200 : runPure Try.prog (isAgg 200) = some false := by kernel_rfl
theorem Info201 : (Try.prog.info? 201).map (fun i => (i.zero, i.size, i.bytes)) = some (some (.nilFunc), 1, 8) := by kernel_rfl
theorem Agg201 : runPure Try.prog (isAgg 201) = some false := by kernel_rfl
theorem Info202 : (Try.prog.info? 202).map (fun i => (i.zero, i.size, i.bytes)) = some (some (.nilFunc), 1, 8) := by kernel_rfl
theorem Agg202 : runPure Try.prog (isAgg 202) = some false := by kernel_rfl
theorem Info203 : (Try.prog.info? 203).map (fun i => (i.zero, i.size, i.bytes)) = some (some (.int .u64 0), 1, 8) := by kernel_rfl
theorem Agg203 : runPure Try.prog (isAgg 203) = some false := by kernel_rfl
theorem Und204 : Try.prog.underlying 204 = some (.slice 206) := Try.underlying204
theorem Info204 : (Try.prog.info? 204).map (fun i => (i.zero, i.size, i.bytes)) = some (some (.slice none 0 0), 1, 24) := by kernel_rfl
theorem Agg204 : runPure Try.prog (isAgg 204) = some false := by kernel_rfl
theorem Info205 : (Try.prog.info? 205).map (fun i => (i.zero, i.size, i.bytes)) = some (some (.nilFunc), 1, 8) := by kernel_rfl
theorem Agg205 : runPure Try.prog (isAgg 205) = some false := by kernel_rfl
theorem Info206 : (Try.prog.info? 206).map (fun i => (i.zero, i.size, i.bytes)) = some (some (.nilFunc), 1, 8) := by kernel_rfl
theorem Agg206 : runPure Try.prog (isAgg 206) = some false := by kernel_rfl
theorem Info207 : (Try.prog.info? 207).map (fun i => (i.zero, i.size, i.bytes)) = some (some (.nilFunc), 1, 8) := by kernel_rfl
theorem Agg207 : runPure Try.prog (isAgg 207) = some false := by kernel_rfl
theorem Info209 : (Try.prog.info? 209).map (fun i => (i.zero, i.size, i.bytes)) = some (some (.nilFunc), 1, 8) := by kernel_rfl
theorem Agg209 : runPure Try.prog (isAgg 209) = some false := by kernel_rfl
theorem Info210 : (Try.prog.info? 210).map (fun i => (i.zero, i.size, i.bytes)) = some (some (.nilFunc), 1, 8) := by kernel_rfl
theorem Agg210 : runPure Try.prog (isAgg 210) = some false := by kernel_rfl
theorem Info211 : (Try.prog.info? 211).map (fun i => (i.zero, i.size, i.bytes)) = some (some (.nilFunc), 1, 8) := by kernel_rfl
theorem Agg211 : runPure Try.prog (isAgg 211) = some false := by kernel_rfl
theorem Info213 : (Try.prog.info? 213).map (fun i => (i.zero, i.size, i.bytes)) = some (some (.nilFunc), 1, 8) := by kernel_rfl
theorem Agg213 : runPure Try.prog (isAgg 213) = some false := by kernel_rfl
theorem Info214 : (Try.prog.info? 214).map (fun i => (i.zero, i.size, i.bytes)) = some (some (.agg #[.slice none 0 0, .int .i64 0, .slice none 0 0]), 3, 56) := by kernel_rfl
theorem Info215 : (Try.prog.info? 215).map (fun i => (i.zero, i.size, i.bytes)) = some (some (.agg #[.slice none 0 0, .int .i64 0, .slice none 0 0]), 3, 56) := by kernel_rfl
theorem Info216 : (Try.prog.info? 216).map (fun i => (i.zero, i.size, i.bytes)) = some (some (.nilFunc), 1, 8) := by kernel_rfl
theorem Agg216 : runPure Try.prog (isAgg 216) = some false := by kernel_rfl
theorem Info217 : (Try.prog.info? 217).map (fun i => (i.zero, i.size, i.bytes)) = some (some (.nilFunc), 1, 8) := by kernel_rfl
theorem Agg217 : runPure Try.prog (isAgg 217) = some false := by kernel_rfl
theorem Info218 : (Try.prog.info? 218).map (fun i => (i.zero, i.size, i.bytes)) = some (some (.nilFunc), 1, 8) := by kernel_rfl
theorem Agg218 : runPure Try.prog (isAgg 218) = some false := by kernel_rfl
theorem Info219 : (Try.prog.info? 219).map (fun i => (i.zero, i.size, i.bytes)) = some (some (.nilFunc), 1, 8) := by kernel_rfl
theorem Agg219 : runPure Try.prog (isAgg 219) = some false := by kernel_rfl
theorem Info220 : (Try.prog.info? 220).map (fun i => (i.zero, i.size, i.bytes)) = some (some (.nilFunc), 1, 8) := by kernel_rfl
theorem Agg220 : runPure Try.prog (isAgg 220) = some false := by kernel_rfl
theorem Info221 : (Try.prog.info? 221).map (fun i => (i.zero, i.size, i.bytes)) = some (some (.nilFunc), 1, 8) := by kernel_rfl
theorem Agg221 : runPure Try.prog (isAgg 221) = some false := by kernel_rfl
theorem Info222 : (Try.prog.info? 222).map (fun i => (i.zero, i.size, i.bytes)) = some (some (.nilFunc), 1, 8) := by kernel_rfl
theorem Agg222 : runPure Try.prog (isAgg 222) = some false := by kernel_rfl
theorem Info223 : (Try.prog.info? 223).map (fun i => (i.zero, i.size, i.bytes)) = some (some (.int .i64 0), 1, 8) := by kernel_rfl
theorem Agg223 : runPure Try.prog (isAgg 223) = some false := by kernel_rfl
theorem Info225 : (Try.prog.info? 225).map (fun i => (i.zero, i.size, i.bytes)) = some (some (.nilFunc), 1, 8) := by kernel_rfl
theorem Agg225 : runPure Try.prog (isAgg 225) = some false := by kernel_rfl
theorem Info226 : (Try.prog.info? 226).map (fun i => (i.zero, i.size, i.bytes)) = some (some (.nilFunc), 1, 8) := by kernel_rfl
theorem Agg226 : runPure Try.prog (isAgg 226) = some false := by kernel_rfl
theorem Info227 : (Try.prog.info? 227).map (fun i => (i.zero, i.size, i.bytes)) = some (some (.nilFunc), 1, 8) := by kernel_rfl
theorem Agg227 : runPure Try.prog (isAgg 227) = some false := by kernel_rfl
theorem Info228 : (Try.prog.info? 228).map (fun i => (i.zero, i.size, i.bytes)) = some (some (.nilFunc), 1, 8) := by kernel_rfl
theorem Agg228 : runPure Try.prog (isAgg 228) = some false := by kernel_rfl
theorem Info229 : (Try.prog.info? 229).map (fun i => (i.zero, i.size, i.bytes)) = some (some (.int .u32 0), 1, 4) := by kernel_rfl
theorem Agg229 : runPure Try.prog (isAgg 229) = some false := by kernel_rfl
theorem Info230 : (Try.prog.info? 230).map (fun i => (i.zero, i.size, i.bytes)) = some (some (.nilFunc), 1, 8) := by kernel_rfl
theorem Agg230 : runPure Try.prog (isAgg 230) = some false := by kernel_rfl
theorem Info231 : (Try.prog.info? 231).map (fun i => (i.zero, i.size, i.bytes)) = some (some (.int .u64 0), 1, 8) := by kernel_rfl
theorem Agg231 : runPure Try.prog (isAgg 231) = some false := by kernel_rfl
theorem Info232 : (Try.prog.info? 232).map (fun i => (i.zero, i.size, i.bytes)) = some (some (.nilFunc), 1, 8) := by kernel_rfl
theorem Agg232 : runPure Try.prog (isAgg 232) = some false := by kernel_rfl
theorem Info233 : (Try.prog.info? 233).map (fun i => (i.zero, i.size, i.bytes)) = some (some (.nilFunc), 1, 8) := by kernel_rfl
theorem Agg233 : runPure Try.prog (isAgg 233) = some false := by kernel_rfl
theorem Info234 : (Try.prog.info? 234).map (fun i => (i.zero, i.size, i.bytes)) = some (some (.nilFunc), 1, 8) := by kernel_rfl
theorem Agg234 : runPure Try.prog (isAgg 234) = some false := by kernel_rfl
theorem Info235 : (Try.prog.info? 235).map (fun i => (i.zero, i.size, i.bytes)) = some (some (.nilFunc), 1, 8) := by kernel_rfl
theorem Agg235 : runPure Try.prog (isAgg 235) = some false := by kernel_rfl
theorem Info236 : (Try.prog.info? 236).map (fun i => (i.zero, i.size, i.bytes)) = some (some (.nilFunc), 1, 8) := by kernel_rfl
theorem Agg236 : runPure Try.prog (isAgg 236) = some false := by kernel_rfl
theorem Info237 : (Try.prog.info? 237).map (fun i => (i.zero, i.size, i.bytes)) = some (some (.nilFunc), 1, 8) := by kernel_rfl
theorem Agg237 : runPure Try.prog (isAgg 237) = some false := by kernel_rfl
theorem Info238 : (Try.prog.info? 238).map (fun i => (i.zero, i.size, i.bytes)) = some (some (.nilFunc), 1, 8) := by kernel_rfl
theorem Agg238 : runPure Try.prog (isAgg 238) = some false := by kernel_rfl
theorem Info239 : (Try.prog.info? 239).map (fun i => (i.zero, i.size, i.bytes)) = some (some (.nilFunc), 1, 8) := by kernel_rfl
theorem Agg239 : runPure Try.prog (isAgg 239) = some false := by kernel_rfl
theorem Info240 : (Try.prog.info? 240).map (fun i => (i.zero, i.size, i.bytes)) = some (some (.nilFunc), 1, 8) := by kernel_rfl
theorem Agg240 : runPure Try.prog (isAgg 240) = some false := by kernel_rfl
theorem Info241 : (Try.prog.info? 241).map (fun i => (i.zero, i.size, i.bytes)) = some (some (.nilFunc), 1, 8) := by kernel_rfl
theorem Agg241 : runPure Try.prog (isAgg 241) = some false := by kernel_rfl
theorem Info242 : (Try.prog.info? 242).map (fun i => (i.zero, i.size, i.bytes)) = some (some (.nilFunc), 1, 8) := by kernel_rfl
theorem Agg242 : runPure Try.prog (isAgg 242) = some false := by kernel_rfl
theorem Info243 : (Try.prog.info? 243).map (fun i => (i.zero, i.size, i.bytes)) = some (some (.nilFunc), 1, 8) := by kernel_rfl
theorem Agg243 : runPure Try.prog (isAgg 243) = some false := by kernel_rfl
theorem Info244 : (Try.prog.info? 244).map (fun i => (i.zero, i.size, i.bytes)) = some (some (.nilFunc), 1, 8) := by kernel_rfl
theorem Agg244 : runPure Try.prog (isAgg 244) = some false := by kernel_rfl
theorem Info245 : (Try.prog.info? 245).map (fun i => (i.zero, i.size, i.bytes)) = some (some (.int .u64 0), 1, 8) := by kernel_rfl
theorem Agg245 : runPure Try.prog (isAgg 245) = some false := by kernel_rfl
theorem Info246 : (Try.prog.info? 246).map (fun i => (i.zero, i.size, i.bytes)) = some (some (.nilFunc), 1, 8) := by kernel_rfl
theorem Agg246 : runPure Try.prog (isAgg 246) = some false := by kernel_rfl
theorem Info247 : (Try.prog.info? 247).map (fun i => (i.zero, i.size, i.bytes)) = some (some (.nilFunc), 1, 8) := by kernel_rfl
theorem Agg247 : runPure Try.prog (isAgg 247) = some false := by kernel_rfl
theorem Info248 : (Try.prog.info? 248).map (fun i => (i.zero, i.size, i.bytes)) = some (some (.nilFunc), 1, 8) := by kernel_rfl
theorem Agg248 : runPure Try.prog (isAgg 248) = some false := by kernel_rfl
theorem Info249 : (Try.prog.info? 249).map (fun i => (i.zero, i.size, i.bytes)) = some (some (.pointer none), 1, 8) := by kernel_rfl
theorem Agg249 : runPure Try.prog (isAgg 249) = some false := by kernel_rfl
theorem Info250 : (Try.prog.info? 250).map (fun i => (i.zero, i.size, i.bytes)) = some (some (.nilFunc), 1, 8) := by kernel_rfl
theorem Agg250 : runPure Try.prog (isAgg 250) = some false := by kernel_rfl
theorem UndA251 : Try.prog.underlying 251 = some (.array 15 3) := Try.underlying251
theorem Info251 : (Try.prog.info? 251).map (fun i => (i.zero, i.size, i.bytes)) = some (some (.agg #[.int .i64 0, .int .i64 0, .int .i64 0, .int .i64 0, .int .i64 0, .int .i64 0, .int .i64 0, .int .i64 0, .int .i64 0, .int .i64 0, .int .i64 0, .int .i64 0, .int .i64 0, .int .i64 0, .int .i64 0]), 15, 120) := by kernel_rfl
theorem Info252 : (Try.prog.info? 252).map (fun i => (i.zero, i.size, i.bytes)) = some (some (.nilFunc), 1, 8) := by kernel_rfl
theorem Agg252 : runPure Try.prog (isAgg 252) = some false := by kernel_rfl
theorem Info253 : (Try.prog.info? 253).map (fun i => (i.zero, i.size, i.bytes)) = some (some (.nilFunc), 1, 8) := by kernel_rfl
theorem Agg253 : runPure Try.prog (isAgg 253) = some false := by kernel_rfl
theorem Info254 : (Try.prog.info? 254).map (fun i => (i.zero, i.size, i.bytes)) = some (some (.nilFunc), 1, 8) := by kernel_rfl
theorem Agg254 : runPure Try.prog (isAgg 254) = some false := by kernel_rfl
theorem Info255 : (Try.prog.info? 255).map (fun i => (i.zero, i.size, i.bytes)) = some (some (.nilFunc), 1, 8) := by kernel_rfl
theorem Agg255 : runPure Try.prog (isAgg 255) = some false := by kernel_rfl
theorem Info256 : (Try.prog.info? 256).map (fun i => (i.zero, i.size, i.bytes)) = some (some (.nilFunc), 1, 8) := by kernel_rfl
theorem Agg256 : runPure Try.prog (isAgg 256) = some false := by kernel_rfl
theorem Info257 : (Try.prog.info? 257).map (fun i => (i.zero, i.size, i.bytes)) = some (some (.nilFunc), 1, 8) := by kernel_rfl
theorem Agg257 : runPure Try.prog (isAgg 257) = some false := by kernel_rfl
theorem Info258 : (Try.prog.info? 258).map (fun i => (i.zero, i.size, i.bytes)) = some (some (.nilFunc), 1, 8) := by kernel_rfl
theorem Agg258 : runPure Try.prog (isAgg 258) = some false := by kernel_rfl
theorem Info259 : (Try.prog.info? 259).map (fun i => (i.zero, i.size, i.bytes)) = some (some (.nilFunc), 1, 8) := by kernel_rfl
theorem Agg259 : runPure Try.prog (isAgg 259) = some false := by kernel_rfl
theorem Info260 : (Try.prog.info? 260).map (fun i => (i.zero, i.size, i.bytes)) = some (some (.nilFunc), 1, 8) := by kernel_rfl
theorem Agg260 : runPure Try.prog (isAgg 260) = some false := by kernel_rfl
theorem Info261 : (Try.prog.info? 261).map (fun i => (i.zero, i.size, i.bytes)) = some (some (.pointer none), 1, 8) := by kernel_rfl
theorem Agg261 : runPure Try.prog (isAgg 261) = some false := by kernel_rfl
theorem Info263 : (Try.prog.info? 263).map (fun i => (i.zero, i.size, i.bytes)) = some (some (.nilFunc), 1, 8) := by kernel_rfl
theorem Agg263 : runPure Try.prog (isAgg 263) = some false := by kernel_rfl
theorem Info264 : (Try.prog.info? 264).map (fun i => (i.zero, i.size, i.bytes)) = some (some (.nilFunc), 1, 8) := by kernel_rfl
theorem Agg264 : runPure Try.prog (isAgg 264) = some false := by kernel_rfl
theorem Info265 : (Try.prog.info? 265).map (fun i => (i.zero, i.size, i.bytes)) = some (some (.nilFunc), 1, 8) := by kernel_rfl
theorem Agg265 : runPure Try.prog (isAgg 265) = some false := by kernel_rfl
theorem Info266 : (Try.prog.info? 266).map (fun i => (i.zero, i.size, i.bytes)) = some (some (.nilFunc), 1, 8) := by kernel_rfl
theorem Agg266 : runPure Try.prog (isAgg 266) = some false := by kernel_rfl
theorem Info267 : (Try.prog.info? 267).map (fun i => (i.zero, i.size, i.bytes)) = some (some (.nilFunc), 1, 8) := by kernel_rfl
theorem Agg267 : runPure Try.prog (isAgg 267) = some false := by kernel_rfl
theorem Info268 : (Try.prog.info? 268).map (fun i => (i.zero, i.size, i.bytes)) = some (some (.nilFunc), 1, 8) := by kernel_rfl
theorem Agg268 : runPure Try.prog (isAgg 268) = some false := by kernel_rfl
theorem Info269 : (Try.prog.info? 269).map (fun i => (i.zero, i.size, i.bytes)) = some (some (.agg #[.pointer none, .pointer none, .pointer none, .string ⟨#[]⟩]), 4, 40) := by kernel_rfl
theorem Info270 : (Try.prog.info? 270).map (fun i => (i.zero, i.size, i.bytes)) = some (some (.agg #[.pointer none, .pointer none, .pointer none, .string ⟨#[]⟩]), 4, 40) := by kernel_rfl
theorem UndA271 : Try.prog.underlying 271 = some (.array 0 16) := Try.underlying271
theorem Info271 : (Try.prog.info? 271).map (fun i => (i.zero, i.size, i.bytes)) = some (some (.agg #[]), 0, 0) := by kernel_rfl
theorem Info272 : (Try.prog.info? 272).map (fun i => (i.zero, i.size, i.bytes)) = some (some (.agg #[]), 0, 0) := by kernel_rfl
theorem Info273 : (Try.prog.info? 273).map (fun i => (i.zero, i.size, i.bytes)) = some (some (.agg #[]), 0, 0) := by kernel_rfl
theorem Info274 : (Try.prog.info? 274).map (fun i => (i.zero, i.size, i.bytes)) = some (some (.int .u8 0), 1, 1) := by kernel_rfl
theorem Agg274 : runPure Try.prog (isAgg 274) = some false := by kernel_rfl
theorem Info275 : (Try.prog.info? 275).map (fun i => (i.zero, i.size, i.bytes)) = some (some (.int .u8 0), 1, 1) := by kernel_rfl
theorem Agg275 : runPure Try.prog (isAgg 275) = some false := by kernel_rfl
theorem Info276 : (Try.prog.info? 276).map (fun i => (i.zero, i.size, i.bytes)) = some (some (.nilFunc), 1, 8) := by kernel_rfl
theorem Agg276 : runPure Try.prog (isAgg 276) = some false := by kernel_rfl
theorem Info277 : (Try.prog.info? 277).map (fun i => (i.zero, i.size, i.bytes)) = some (some (.pointer none), 1, 8) := by kernel_rfl
theorem Agg277 : runPure Try.prog (isAgg 277) = some false := by kernel_rfl
theorem Info278 : (Try.prog.info? 278).map (fun i => (i.zero, i.size, i.bytes)) = some (some (.int .i32 0), 1, 4) := by kernel_rfl
theorem Agg278 : runPure Try.prog (isAgg 278) = some false := by kernel_rfl
theorem Info279 : (Try.prog.info? 279).map (fun i => (i.zero, i.size, i.bytes)) = some (some (.int .i32 0), 1, 4) := by kernel_rfl
theorem Agg279 : runPure Try.prog (isAgg 279) = some false := by kernel_rfl
theorem Info280 : (Try.prog.info? 280).map (fun i => (i.zero, i.size, i.bytes)) = some (some (.agg #[.int .u64 0, .int .u64 0, .int .u32 0, .int .u8 0, .int .u8 0, .int .u8 0, .int .u8 0, .nilFunc, .pointer none, .int .i32 0, .int .i32 0]), 11, 48) := by kernel_rfl
theorem Info281 : (Try.prog.info? 281).map (fun i => (i.zero, i.size, i.bytes)) = some (some (.agg #[.int .u64 0, .int .u64 0, .int .u32 0, .int .u8 0, .int .u8 0, .int .u8 0, .int .u8 0, .nilFunc, .pointer none, .int .i32 0, .int .i32 0]), 11, 48) := by kernel_rfl
set_option maxRecDepth 100000 in
theorem Eql7 {a0 b0 : Int} {a1 b1 : Int} {a2 b2 : Bool} {a3 b3 : Int} (w : World) : (Op.equal 7 (.agg #[.int .i64 a0, .int .i64 a1, .bool a2, .int .u8 a3]) (.agg #[.int .i64 b0, .int .i64 b1, .bool b2, .int .u8 b3])).run Try.prog w = .ok (((a0 == b0) && ((a1 == b1) && ((a2 == b2) && (a3 == b3))))) w :=
  eq_struct [a0 == b0, a1 == b1, a2 == b2, a3 == b3] Try.underlying7 (by kernel_rfl) ⟨⟨by decide, by kernel_rfl, _, _, rfl, rfl, eqv_int Try.underlying2⟩, ⟨by decide, by kernel_rfl, _, _, rfl, rfl, eqv_int Try.underlying3⟩, ⟨by decide, by kernel_rfl, _, _, rfl, rfl, eqv_bool Try.underlying4⟩, ⟨by decide, by kernel_rfl, _, _, rfl, rfl, eqv_int Try.underlying6⟩, trivial⟩
abbrev enc7 : (Int × Int × Bool × Int) → List Value := fun p => [Value.int .i64 (p.1), Value.int .i64 (p.2.1), Value.bool (p.2.2.1), Value.int .u8 (p.2.2.2)]
theorem encK7 : EncK enc7 4 := ⟨fun _ => rfl, fun _ u hu => by simp at hu; rcases hu with rfl | rfl | rfl | rfl <;> rfl, by decide⟩
set_option maxRecDepth 100000 in
theorem Eql8 {a0 b0 : Int} {a1 b1 : Int} {a2 b2 : Bool} {a3 b3 : Int} (w : World) : (Op.equal 8 (.agg #[.int .i64 a0, .int .i64 a1, .bool a2, .int .u8 a3]) (.agg #[.int .i64 b0, .int .i64 b1, .bool b2, .int .u8 b3])).run Try.prog w = .ok (((a0 == b0) && ((a1 == b1) && ((a2 == b2) && (a3 == b3))))) w :=
  eq_struct [a0 == b0, a1 == b1, a2 == b2, a3 == b3] Try.underlying8 (by kernel_rfl) ⟨⟨by decide, by kernel_rfl, _, _, rfl, rfl, eqv_int Try.underlying2⟩, ⟨by decide, by kernel_rfl, _, _, rfl, rfl, eqv_int Try.underlying3⟩, ⟨by decide, by kernel_rfl, _, _, rfl, rfl, eqv_bool Try.underlying4⟩, ⟨by decide, by kernel_rfl, _, _, rfl, rfl, eqv_int Try.underlying6⟩, trivial⟩
abbrev enc8 : (Int × Int × Bool × Int) → List Value := fun p => [Value.int .i64 (p.1), Value.int .i64 (p.2.1), Value.bool (p.2.2.1), Value.int .u8 (p.2.2.2)]
theorem encK8 : EncK enc8 4 := ⟨fun _ => rfl, fun _ u hu => by simp at hu; rcases hu with rfl | rfl | rfl | rfl <;> rfl, by decide⟩
set_option maxRecDepth 100000 in
theorem Eql49 {a0 b0 : Int} {a1 b1 : Int} {a2 b2 : Int} {a3 b3 : Int} (w : World) : (Op.equal 49 (.agg #[.int .i64 a0, .int .i64 a1, .int .i64 a2, .int .i64 a3]) (.agg #[.int .i64 b0, .int .i64 b1, .int .i64 b2, .int .i64 b3])).run Try.prog w = .ok (((a0 == b0) && ((a1 == b1) && ((a2 == b2) && (a3 == b3))))) w :=
  eq_array [a0 == b0, a1 == b1, a2 == b2, a3 == b3] Try.underlying49 (by kernel_rfl) (by kernel_rfl) rfl ⟨⟨_, _, rfl, rfl, eqv_int Try.underlying3⟩, ⟨_, _, rfl, rfl, eqv_int Try.underlying3⟩, ⟨_, _, rfl, rfl, eqv_int Try.underlying3⟩, ⟨_, _, rfl, rfl, eqv_int Try.underlying3⟩, trivial⟩
abbrev enc49 : (Int × Int × Int × Int) → List Value := fun p => [Value.int .i64 (p.1), Value.int .i64 (p.2.1), Value.int .i64 (p.2.2.1), Value.int .i64 (p.2.2.2)]
theorem encK49 : EncK enc49 4 := ⟨fun _ => rfl, fun _ u hu => by simp at hu; rcases hu with rfl | rfl | rfl | rfl <;> rfl, by decide⟩
set_option maxRecDepth 100000 in
theorem Eql53 {a0 b0 : Int} {a1 b1 : Int} {a2 b2 : Int} (w : World) : (Op.equal 53 (.agg #[.int .i64 a0, .int .i64 a1, .int .i64 a2]) (.agg #[.int .i64 b0, .int .i64 b1, .int .i64 b2])).run Try.prog w = .ok (((a0 == b0) && ((a1 == b1) && (a2 == b2)))) w :=
  eq_struct [a0 == b0, a1 == b1, a2 == b2] Try.underlying53 (by kernel_rfl) ⟨⟨by decide, by kernel_rfl, _, _, rfl, rfl, eqv_int Try.underlying3⟩, ⟨by decide, by kernel_rfl, _, _, rfl, rfl, eqv_int Try.underlying3⟩, ⟨by decide, by kernel_rfl, _, _, rfl, rfl, eqv_int Try.underlying3⟩, trivial⟩
abbrev enc53 : (Int × Int × Int) → List Value := fun p => [Value.int .i64 (p.1), Value.int .i64 (p.2.1), Value.int .i64 (p.2.2)]
theorem encK53 : EncK enc53 3 := ⟨fun _ => rfl, fun _ u hu => by simp at hu; rcases hu with rfl | rfl | rfl <;> rfl, by decide⟩
set_option maxRecDepth 100000 in
theorem Eql54 {a0 b0 : Int} {a1 b1 : Int} {a2 b2 : Int} (w : World) : (Op.equal 54 (.agg #[.int .i64 a0, .int .i64 a1, .int .i64 a2]) (.agg #[.int .i64 b0, .int .i64 b1, .int .i64 b2])).run Try.prog w = .ok (((a0 == b0) && ((a1 == b1) && (a2 == b2)))) w :=
  eq_struct [a0 == b0, a1 == b1, a2 == b2] Try.underlying54 (by kernel_rfl) ⟨⟨by decide, by kernel_rfl, _, _, rfl, rfl, eqv_int Try.underlying3⟩, ⟨by decide, by kernel_rfl, _, _, rfl, rfl, eqv_int Try.underlying3⟩, ⟨by decide, by kernel_rfl, _, _, rfl, rfl, eqv_int Try.underlying3⟩, trivial⟩
abbrev enc54 : (Int × Int × Int) → List Value := fun p => [Value.int .i64 (p.1), Value.int .i64 (p.2.1), Value.int .i64 (p.2.2)]
theorem encK54 : EncK enc54 3 := ⟨fun _ => rfl, fun _ u hu => by simp at hu; rcases hu with rfl | rfl | rfl <;> rfl, by decide⟩
set_option maxRecDepth 100000 in
theorem Eql69 {a0 b0 : Int} {a1 b1 : Int} (w : World) : (Op.equal 69 (.agg #[.int .i64 a0, .int .i64 a1]) (.agg #[.int .i64 b0, .int .i64 b1])).run Try.prog w = .ok (((a0 == b0) && (a1 == b1))) w :=
  eq_array [a0 == b0, a1 == b1] Try.underlying69 (by kernel_rfl) (by kernel_rfl) rfl ⟨⟨_, _, rfl, rfl, eqv_int Try.underlying3⟩, ⟨_, _, rfl, rfl, eqv_int Try.underlying3⟩, trivial⟩
abbrev enc69 : (Int × Int) → List Value := fun p => [Value.int .i64 (p.1), Value.int .i64 (p.2)]
theorem encK69 : EncK enc69 2 := ⟨fun _ => rfl, fun _ u hu => by simp at hu; rcases hu with rfl | rfl <;> rfl, by decide⟩
set_option maxRecDepth 100000 in
theorem Eql127 {a0 b0 : Int} {a1 b1 : Int} {a2 b2 : Int} (w : World) : (Op.equal 127 (.agg #[.int .i64 a0, .int .i64 a1, .int .i64 a2]) (.agg #[.int .i64 b0, .int .i64 b1, .int .i64 b2])).run Try.prog w = .ok (((a0 == b0) && ((a1 == b1) && (a2 == b2)))) w :=
  eq_struct [a0 == b0, a1 == b1, a2 == b2] Try.underlying127 (by kernel_rfl) ⟨⟨by decide, by kernel_rfl, _, _, rfl, rfl, eqv_int Try.underlying3⟩, ⟨by decide, by kernel_rfl, _, _, rfl, rfl, eqv_int Try.underlying3⟩, ⟨by decide, by kernel_rfl, _, _, rfl, rfl, eqv_int Try.underlying3⟩, trivial⟩
abbrev enc127 : (Int × Int × Int) → List Value := fun p => [Value.int .i64 (p.1), Value.int .i64 (p.2.1), Value.int .i64 (p.2.2)]
theorem encK127 : EncK enc127 3 := ⟨fun _ => rfl, fun _ u hu => by simp at hu; rcases hu with rfl | rfl | rfl <;> rfl, by decide⟩
set_option maxRecDepth 100000 in
theorem Eql128 {a0 b0 : Int} {a1 b1 : Int} {a2 b2 : Int} (w : World) : (Op.equal 128 (.agg #[.int .i64 a0, .int .i64 a1, .int .i64 a2]) (.agg #[.int .i64 b0, .int .i64 b1, .int .i64 b2])).run Try.prog w = .ok (((a0 == b0) && ((a1 == b1) && (a2 == b2)))) w :=
  eq_struct [a0 == b0, a1 == b1, a2 == b2] Try.underlying128 (by kernel_rfl) ⟨⟨by decide, by kernel_rfl, _, _, rfl, rfl, eqv_int Try.underlying3⟩, ⟨by decide, by kernel_rfl, _, _, rfl, rfl, eqv_int Try.underlying3⟩, ⟨by decide, by kernel_rfl, _, _, rfl, rfl, eqv_int Try.underlying3⟩, trivial⟩
abbrev enc128 : (Int × Int × Int) → List Value := fun p => [Value.int .i64 (p.1), Value.int .i64 (p.2.1), Value.int .i64 (p.2.2)]
theorem encK128 : EncK enc128 3 := ⟨fun _ => rfl, fun _ u hu => by simp at hu; rcases hu with rfl | rfl | rfl <;> rfl, by decide⟩
set_option maxRecDepth 100000 in
theorem Eql166 {a0 b0 : Int} {a1 b1 : Int} {a2 b2 : Int} {a3 b3 : Int} {a4 b4 : Int} {a5 b5 : Int} (w : World) : (Op.equal 166 (.agg #[.int .i64 a0, .int .i64 a1, .int .i64 a2, .int .i64 a3, .int .i64 a4, .int .i64 a5]) (.agg #[.int .i64 b0, .int .i64 b1, .int .i64 b2, .int .i64 b3, .int .i64 b4, .int .i64 b5])).run Try.prog w = .ok (((a0 == b0) && ((a1 == b1) && ((a2 == b2) && ((a3 == b3) && ((a4 == b4) && (a5 == b5))))))) w :=
  eq_array [a0 == b0, a1 == b1, a2 == b2, a3 == b3, a4 == b4, a5 == b5] Try.underlying166 (by kernel_rfl) (by kernel_rfl) rfl ⟨⟨_, _, rfl, rfl, eqv_int Try.underlying3⟩, ⟨_, _, rfl, rfl, eqv_int Try.underlying3⟩, ⟨_, _, rfl, rfl, eqv_int Try.underlying3⟩, ⟨_, _, rfl, rfl, eqv_int Try.underlying3⟩, ⟨_, _, rfl, rfl, eqv_int Try.underlying3⟩, ⟨_, _, rfl, rfl, eqv_int Try.underlying3⟩, trivial⟩
abbrev enc166 : (Int × Int × Int × Int × Int × Int) → List Value := fun p => [Value.int .i64 (p.1), Value.int .i64 (p.2.1), Value.int .i64 (p.2.2.1), Value.int .i64 (p.2.2.2.1), Value.int .i64 (p.2.2.2.2.1), Value.int .i64 (p.2.2.2.2.2)]
theorem encK166 : EncK enc166 6 := ⟨fun _ => rfl, fun _ u hu => by simp at hu; rcases hu with rfl | rfl | rfl | rfl | rfl | rfl <;> rfl, by decide⟩
set_option maxRecDepth 100000 in
theorem Eql167 {a0 b0 : Int} {a1 b1 : Int} {a2 b2 : Int} {a3 b3 : Int} {a4 b4 : Int} {a5 b5 : Int} (w : World) : (Op.equal 167 (.agg #[.int .i64 a0, .int .i64 a1, .int .i64 a2, .int .i64 a3, .int .i64 a4, .int .i64 a5]) (.agg #[.int .i64 b0, .int .i64 b1, .int .i64 b2, .int .i64 b3, .int .i64 b4, .int .i64 b5])).run Try.prog w = .ok (((a0 == b0) && ((a1 == b1) && ((a2 == b2) && ((a3 == b3) && ((a4 == b4) && (a5 == b5))))))) w :=
  eq_array [a0 == b0, a1 == b1, a2 == b2, a3 == b3, a4 == b4, a5 == b5] Try.underlying167 (by kernel_rfl) (by kernel_rfl) rfl ⟨⟨_, _, rfl, rfl, eqv_int Try.underlying3⟩, ⟨_, _, rfl, rfl, eqv_int Try.underlying3⟩, ⟨_, _, rfl, rfl, eqv_int Try.underlying3⟩, ⟨_, _, rfl, rfl, eqv_int Try.underlying3⟩, ⟨_, _, rfl, rfl, eqv_int Try.underlying3⟩, ⟨_, _, rfl, rfl, eqv_int Try.underlying3⟩, trivial⟩
abbrev enc167 : (Int × Int × Int × Int × Int × Int) → List Value := fun p => [Value.int .i64 (p.1), Value.int .i64 (p.2.1), Value.int .i64 (p.2.2.1), Value.int .i64 (p.2.2.2.1), Value.int .i64 (p.2.2.2.2.1), Value.int .i64 (p.2.2.2.2.2)]
theorem encK167 : EncK enc167 6 := ⟨fun _ => rfl, fun _ u hu => by simp at hu; rcases hu with rfl | rfl | rfl | rfl | rfl | rfl <;> rfl, by decide⟩
set_option maxRecDepth 100000 in
theorem Eql176 {a0 b0 : Int} {a1 b1 : Bool} (w : World) : (Op.equal 176 (.agg #[.int .i64 a0, .bool a1]) (.agg #[.int .i64 b0, .bool b1])).run Try.prog w = .ok (((a0 == b0) && (a1 == b1))) w :=
  eq_struct [a0 == b0, a1 == b1] Try.underlying176 (by kernel_rfl) ⟨⟨by decide, by kernel_rfl, _, _, rfl, rfl, eqv_int Try.underlying3⟩, ⟨by decide, by kernel_rfl, _, _, rfl, rfl, eqv_bool Try.underlying4⟩, trivial⟩
abbrev enc176 : (Int × Bool) → List Value := fun p => [Value.int .i64 (p.1), Value.bool (p.2)]
theorem encK176 : EncK enc176 2 := ⟨fun _ => rfl, fun _ u hu => by simp at hu; rcases hu with rfl | rfl <;> rfl, by decide⟩
set_option maxRecDepth 100000 in
theorem Eql177 {a0 b0 : Int} {a1 b1 : Bool} (w : World) : (Op.equal 177 (.agg #[.int .i64 a0, .bool a1]) (.agg #[.int .i64 b0, .bool b1])).run Try.prog w = .ok (((a0 == b0) && (a1 == b1))) w :=
  eq_struct [a0 == b0, a1 == b1] Try.underlying177 (by kernel_rfl) ⟨⟨by decide, by kernel_rfl, _, _, rfl, rfl, eqv_int Try.underlying3⟩, ⟨by decide, by kernel_rfl, _, _, rfl, rfl, eqv_bool Try.underlying4⟩, trivial⟩
abbrev enc177 : (Int × Bool) → List Value := fun p => [Value.int .i64 (p.1), Value.bool (p.2)]
theorem encK177 : EncK enc177 2 := ⟨fun _ => rfl, fun _ u hu => by simp at hu; rcases hu with rfl | rfl <;> rfl, by decide⟩
set_option maxRecDepth 100000 in
theorem Eql186 {a0 b0 : Int} {a1 b1 : Int} {a2 b2 : Int} (w : World) : (Op.equal 186 (.agg #[.int .i64 a0, .int .i64 a1, .int .i64 a2]) (.agg #[.int .i64 b0, .int .i64 b1, .int .i64 b2])).run Try.prog w = .ok (((a0 == b0) && ((a1 == b1) && (a2 == b2)))) w :=
  eq_array [a0 == b0, a1 == b1, a2 == b2] Try.underlying186 (by kernel_rfl) (by kernel_rfl) rfl ⟨⟨_, _, rfl, rfl, eqv_int Try.underlying3⟩, ⟨_, _, rfl, rfl, eqv_int Try.underlying3⟩, ⟨_, _, rfl, rfl, eqv_int Try.underlying3⟩, trivial⟩
abbrev enc186 : (Int × Int × Int) → List Value := fun p => [Value.int .i64 (p.1), Value.int .i64 (p.2.1), Value.int .i64 (p.2.2)]
theorem encK186 : EncK enc186 3 := ⟨fun _ => rfl, fun _ u hu => by simp at hu; rcases hu with rfl | rfl | rfl <;> rfl, by decide⟩
abbrev enc195 : (Int × Int × Int × Int × Int × Int × Int × Int) → List Value := fun p => [Value.int .i64 (p.1), Value.int .i64 (p.2.1), Value.int .i64 (p.2.2.1), Value.int .i64 (p.2.2.2.1), Value.int .i64 (p.2.2.2.2.1), Value.int .i64 (p.2.2.2.2.2.1), Value.int .i64 (p.2.2.2.2.2.2.1), Value.int .i64 (p.2.2.2.2.2.2.2)]
theorem encK195 : EncK enc195 8 := ⟨fun _ => rfl, fun _ u hu => by simp at hu; rcases hu with rfl | rfl | rfl | rfl | rfl | rfl | rfl | rfl <;> rfl, by decide⟩


end Go.Proofs.Ytlkdblflibgfpaa
