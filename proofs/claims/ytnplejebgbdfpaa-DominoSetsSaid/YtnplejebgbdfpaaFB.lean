/-
  Models and walks, printed by our own program (wip/gen).
-/
import Derived.Test.YtnplejebgbdfpaaLibW
import Derived.Test.YtnplejebgbdfpaaProg
namespace Go.Proofs.Ytnplejebgbdfpaa
open Go Go.GL Go.RowKit


theorem Fol : Try.prog.follows .mixedOrders = true := by kernel_rfl
theorem Info1 : (Try.prog.info? 1).map (fun i => (i.zero, i.size, i.bytes)) = some (some (.nilFunc), 1, 8) := by kernel_rfl
theorem Agg1 : runPure Try.prog (isAgg 1) = some false := by kernel_rfl
theorem Info2 : (Try.prog.info? 2).map (fun i => (i.zero, i.size, i.bytes)) = some (some (.int .i64 0), 1, 8) := by kernel_rfl
theorem Agg2 : runPure Try.prog (isAgg 2) = some false := by kernel_rfl
theorem Info3 : (Try.prog.info? 3).map (fun i => (i.zero, i.size, i.bytes)) = some (some (.int .i64 0), 1, 8) := by kernel_rfl
theorem Agg3 : runPure Try.prog (isAgg 3) = some false := by kernel_rfl
theorem Info4 : (Try.prog.info? 4).map (fun i => (i.zero, i.size, i.bytes)) = some (some (.bool false), 1, 1) := by kernel_rfl
theorem Agg4 : runPure Try.prog (isAgg 4) = some false := by kernel_rfl
theorem Info5 : (Try.prog.info? 5).map (fun i => (i.zero, i.size, i.bytes)) = some (some (.int .u8 0), 1, 1) := by kernel_rfl
theorem Agg5 : runPure Try.prog (isAgg 5) = some false := by kernel_rfl
theorem Info6 : (Try.prog.info? 6).map (fun i => (i.zero, i.size, i.bytes)) = some (some (.int .u8 0), 1, 1) := by kernel_rfl
theorem Agg6 : runPure Try.prog (isAgg 6) = some false := by kernel_rfl
theorem Info7 : (Try.prog.info? 7).map (fun i => (i.zero, i.size, i.bytes)) = some (some (.agg #[.int .i64 0, .int .i64 0, .bool false, .int .u8 0]), 4, 24) := by kernel_rfl
theorem Info8 : (Try.prog.info? 8).map (fun i => (i.zero, i.size, i.bytes)) = some (some (.agg #[.int .i64 0, .int .i64 0, .bool false, .int .u8 0]), 4, 24) := by kernel_rfl
theorem Agg9 : runPure Try.prog (isAgg 9) = some false := by kernel_rfl
theorem Agg10 : runPure Try.prog (isAgg 10) = some false := by kernel_rfl
theorem Agg11 : runPure Try.prog (isAgg 11) = some false := by kernel_rfl
theorem Info12 : (Try.prog.info? 12).map (fun i => (i.zero, i.size, i.bytes)) = some (some (.int .u64 0), 1, 8) := by kernel_rfl
theorem Agg12 : runPure Try.prog (isAgg 12) = some false := by kernel_rfl
theorem Info13 : (Try.prog.info? 13).map (fun i => (i.zero, i.size, i.bytes)) = some (some (.agg #[.string ⟨#[]⟩, .int .u64 0]), 2, 24) := by kernel_rfl
theorem Info14 : (Try.prog.info? 14).map (fun i => (i.zero, i.size, i.bytes)) = some (some (.agg #[.string ⟨#[]⟩, .int .u64 0]), 2, 24) := by kernel_rfl
theorem Info15 : (Try.prog.info? 15).map (fun i => (i.zero, i.size, i.bytes)) = some (some (.pointer none), 1, 8) := by kernel_rfl
theorem Agg15 : runPure Try.prog (isAgg 15) = some false := by kernel_rfl
theorem Info16 : (Try.prog.info? 16).map (fun i => (i.zero, i.size, i.bytes)) = some (some (.pointer none), 1, 8) := by kernel_rfl
theorem Agg16 : runPure Try.prog (isAgg 16) = some false := by kernel_rfl
theorem Info17 : (Try.prog.info? 17).map (fun i => (i.zero, i.size, i.bytes)) = some (some (.pointer none), 1, 8) := by kernel_rfl
theorem Agg17 : runPure Try.prog (isAgg 17) = some false := by kernel_rfl
theorem Info18 : (Try.prog.info? 18).map (fun i => (i.zero, i.size, i.bytes)) = some (some (.agg #[.pointer none]), 1, 8) := by kernel_rfl
theorem Info19 : (Try.prog.info? 19).map (fun i => (i.zero, i.size, i.bytes)) = some (some (.agg #[.pointer none]), 1, 8) := by kernel_rfl
theorem Info21 : (Try.prog.info? 21).map (fun i => (i.zero, i.size, i.bytes)) = some (some (.int .i32 0), 1, 4) := by kernel_rfl
theorem Agg21 : runPure Try.prog (isAgg 21) = some false := by kernel_rfl
theorem Und22 : Try.prog.underlying 22 = some (.slice 3) := Try.underlying22
theorem Info22 : (Try.prog.info? 22).map (fun i => (i.zero, i.size, i.bytes)) = some (some (.slice none 0 0), 1, 24) := by kernel_rfl
theorem Agg22 : runPure Try.prog (isAgg 22) = some false := by kernel_rfl
theorem Und23 : Try.prog.underlying 23 = some (.slice 22) := Try.underlying23
theorem Info23 : (Try.prog.info? 23).map (fun i => (i.zero, i.size, i.bytes)) = some (some (.slice none 0 0), 1, 24) := by kernel_rfl
theorem Agg23 : runPure Try.prog (isAgg 23) = some false := by kernel_rfl
theorem Info24 : (Try.prog.info? 24).map (fun i => (i.zero, i.size, i.bytes)) = some (some (.int .i64 0), 1, 8) := by kernel_rfl
theorem Agg24 : runPure Try.prog (isAgg 24) = some false := by kernel_rfl
theorem Info26 : (Try.prog.info? 26).map (fun i => (i.zero, i.size, i.bytes)) = some (some (.nilFunc), 1, 8) := by kernel_rfl
theorem Agg26 : runPure Try.prog (isAgg 26) = some false := by kernel_rfl
theorem Info27 : (Try.prog.info? 27).map (fun i => (i.zero, i.size, i.bytes)) = some (some (.nilFunc), 1, 8) := by kernel_rfl
theorem Agg27 : runPure Try.prog (isAgg 27) = some false := by kernel_rfl
theorem Info28 : (Try.prog.info? 28).map (fun i => (i.zero, i.size, i.bytes)) = some (some (.nilFunc), 1, 8) := by kernel_rfl
theorem Agg28 : runPure Try.prog (isAgg 28) = some false := by kernel_rfl
theorem Info29 : (Try.prog.info? 29).map (fun i => (i.zero, i.size, i.bytes)) = some (some (.nilFunc), 1, 8) := by kernel_rfl
theorem Agg29 : runPure Try.prog (isAgg 29) = some false := by kernel_rfl
theorem UndA30 : Try.prog.underlying 30 = some (.array 9 3) := Try.underlying30
theorem Info30 : (Try.prog.info? 30).map (fun i => (i.zero, i.size, i.bytes)) = some (some (.agg #[.int .i64 0, .int .i64 0, .int .i64 0, .int .i64 0, .int .i64 0, .int .i64 0, .int .i64 0, .int .i64 0, .int .i64 0]), 9, 72) := by kernel_rfl
theorem Info31 : (Try.prog.info? 31).map (fun i => (i.zero, i.size, i.bytes)) = some (some (.nilFunc), 1, 8) := by kernel_rfl
theorem Agg31 : runPure Try.prog (isAgg 31) = some false := by kernel_rfl
theorem Info32 : (Try.prog.info? 32).map (fun i => (i.zero, i.size, i.bytes)) = some (some (.nilFunc), 1, 8) := by kernel_rfl
theorem Agg32 : runPure Try.prog (isAgg 32) = some false := by kernel_rfl
theorem Info33 : (Try.prog.info? 33).map (fun i => (i.zero, i.size, i.bytes)) = some (some (.nilFunc), 1, 8) := by kernel_rfl
theorem Agg33 : runPure Try.prog (isAgg 33) = some false := by kernel_rfl
theorem Info35 : (Try.prog.info? 35).map (fun i => (i.zero, i.size, i.bytes)) = some (some (.nilFunc), 1, 8) := by kernel_rfl
theorem Agg35 : runPure Try.prog (isAgg 35) = some false := by kernel_rfl
theorem Info36 : (Try.prog.info? 36).map (fun i => (i.zero, i.size, i.bytes)) = some (some (.nilFunc), 1, 8) := by kernel_rfl
theorem Agg36 : runPure Try.prog (isAgg 36) = some false := by kernel_rfl
theorem Info37 : (Try.prog.info? 37).map (fun i => (i.zero, i.size, i.bytes)) = some (some (.nilFunc), 1, 8) := by kernel_rfl
theorem Agg37 : runPure Try.prog (isAgg 37) = some false := by kernel_rfl
theorem Info38 : (Try.prog.info? 38).map (fun i => (i.zero, i.size, i.bytes)) = some (some (.nilFunc), 1, 8) := by kernel_rfl
theorem Agg38 : runPure Try.prog (isAgg 38) = some false := by kernel_rfl
theorem Info39 : (Try.prog.info? 39).map (fun i => (i.zero, i.size, i.bytes)) = some (some (.nilFunc), 1, 8) := by kernel_rfl
theorem Agg39 : runPure Try.prog (isAgg 39) = some false := by kernel_rfl
theorem Info40 : (Try.prog.info? 40).map (fun i => (i.zero, i.size, i.bytes)) = some (some (.nilFunc), 1, 8) := by kernel_rfl
theorem Agg40 : runPure Try.prog (isAgg 40) = some false := by kernel_rfl
theorem Info41 : (Try.prog.info? 41).map (fun i => (i.zero, i.size, i.bytes)) = some (some (.nilFunc), 1, 8) := by kernel_rfl
theorem Agg41 : runPure Try.prog (isAgg 41) = some false := by kernel_rfl
theorem Info43 : (Try.prog.info? 43).map (fun i => (i.zero, i.size, i.bytes)) = some (some (.nilFunc), 1, 8) := by kernel_rfl
theorem Agg43 : runPure Try.prog (isAgg 43) = some false := by kernel_rfl
theorem Info44 : (Try.prog.info? 44).map (fun i => (i.zero, i.size, i.bytes)) = some (some (.nilFunc), 1, 8) := by kernel_rfl
theorem Agg44 : runPure Try.prog (isAgg 44) = some false := by kernel_rfl
theorem Info45 : (Try.prog.info? 45).map (fun i => (i.zero, i.size, i.bytes)) = some (some (.nilFunc), 1, 8) := by kernel_rfl
theorem Agg45 : runPure Try.prog (isAgg 45) = some false := by kernel_rfl
theorem Info46 : (Try.prog.info? 46).map (fun i => (i.zero, i.size, i.bytes)) = some (some (.agg #[.int .i64 0, .int .i64 0, .int .i64 0, .int .i64 0]), 4, 32) := by kernel_rfl
theorem Info47 : (Try.prog.info? 47).map (fun i => (i.zero, i.size, i.bytes)) = some (some (.agg #[.int .i64 0, .int .i64 0, .int .i64 0, .int .i64 0]), 4, 32) := by kernel_rfl
theorem Info48 : (Try.prog.info? 48).map (fun i => (i.zero, i.size, i.bytes)) = some (some (.nilFunc), 1, 8) := by kernel_rfl
theorem Agg48 : runPure Try.prog (isAgg 48) = some false := by kernel_rfl
theorem Info49 : (Try.prog.info? 49).map (fun i => (i.zero, i.size, i.bytes)) = some (some (.nilFunc), 1, 8) := by kernel_rfl
theorem Agg49 : runPure Try.prog (isAgg 49) = some false := by kernel_rfl
theorem Info50 : (Try.prog.info? 50).map (fun i => (i.zero, i.size, i.bytes)) = some (some (.nilFunc), 1, 8) := by kernel_rfl
theorem Agg50 : runPure Try.prog (isAgg 50) = some false := by kernel_rfl
theorem Info51 : (Try.prog.info? 51).map (fun i => (i.zero, i.size, i.bytes)) = some (some (.nilFunc), 1, 8) := by kernel_rfl
theorem Agg51 : runPure Try.prog (isAgg 51) = some false := by kernel_rfl
theorem Info52 : (Try.prog.info? 52).map (fun i => (i.zero, i.size, i.bytes)) = some (some (.nilFunc), 1, 8) := by kernel_rfl
theorem Agg52 : runPure Try.prog (isAgg 52) = some false := by kernel_rfl
theorem Info53 : (Try.prog.info? 53).map (fun i => (i.zero, i.size, i.bytes)) = some (some (.nilFunc), 1, 8) := by kernel_rfl
theorem Agg53 : runPure Try.prog (isAgg 53) = some false := by kernel_rfl
theorem Info54 : (Try.prog.info? 54).map (fun i => (i.zero, i.size, i.bytes)) = some (some (.agg #[.int .i64 0, .int .i64 0, .slice none 0 0]), 3, 40) := by kernel_rfl
theorem Info55 : (Try.prog.info? 55).map (fun i => (i.zero, i.size, i.bytes)) = some (some (.agg #[.int .i64 0, .int .i64 0, .slice none 0 0]), 3, 40) := by kernel_rfl
theorem Info56 : (Try.prog.info? 56).map (fun i => (i.zero, i.size, i.bytes)) = some (some (.nilFunc), 1, 8) := by kernel_rfl
theorem Agg56 : runPure Try.prog (isAgg 56) = some false := by kernel_rfl
theorem Info57 : (Try.prog.info? 57).map (fun i => (i.zero, i.size, i.bytes)) = some (some (.nilFunc), 1, 8) := by kernel_rfl
theorem Agg57 : runPure Try.prog (isAgg 57) = some false := by kernel_rfl
theorem Info58 : (Try.prog.info? 58).map (fun i => (i.zero, i.size, i.bytes)) = some (some (.nilFunc), 1, 8) := by kernel_rfl
theorem Agg58 : runPure Try.prog (isAgg 58) = some false := by kernel_rfl
theorem Info59 : (Try.prog.info? 59).map (fun i => (i.zero, i.size, i.bytes)) = some (some (.nilFunc), 1, 8) := by kernel_rfl
theorem Agg59 : runPure Try.prog (isAgg 59) = some false := by kernel_rfl
theorem Info60 : (Try.prog.info? 60).map (fun i => (i.zero, i.size, i.bytes)) = some (some (.nilFunc), 1, 8) := by kernel_rfl
theorem Agg60 : runPure Try.prog (isAgg 60) = some false := by kernel_rfl
theorem Und61 : Try.prog.underlying 61 = some (.slice 102) := Try.underlying61
theorem Info61 : (Try.prog.info? 61).map (fun i => (i.zero, i.size, i.bytes)) = some (some (.slice none 0 0), 1, 24) := by kernel_rfl
theorem Agg61 : runPure Try.prog (isAgg 61) = some false := by kernel_rfl
theorem Info63 : (Try.prog.info? 63).map (fun i => (i.zero, i.size, i.bytes)) = some (some (.nilFunc), 1, 8) := by kernel_rfl
theorem Agg63 : runPure Try.prog (isAgg 63) = some false := by kernel_rfl
theorem Info64 : (Try.prog.info? 64).map (fun i => (i.zero, i.size, i.bytes)) = some (some (.nilFunc), 1, 8) := by kernel_rfl
theorem Agg64 : runPure Try.prog (isAgg 64) = some false := by kernel_rfl
theorem Info65 : (Try.prog.info? 65).map (fun i => (i.zero, i.size, i.bytes)) = some (some (.nilFunc), 1, 8) := by kernel_rfl
theorem Agg65 : runPure Try.prog (isAgg 65) = some false := by kernel_rfl
theorem Info66 : (Try.prog.info? 66).map (fun i => (i.zero, i.size, i.bytes)) = some (some (.nilFunc), 1, 8) := by kernel_rfl
theorem Agg66 : runPure Try.prog (isAgg 66) = some false := by kernel_rfl
theorem Info67 : (Try.prog.info? 67).map (fun i => (i.zero, i.size, i.bytes)) = some (some (.nilFunc), 1, 8) := by kernel_rfl
theorem Agg67 : runPure Try.prog (isAgg 67) = some false := by kernel_rfl
theorem Info68 : (Try.prog.info? 68).map (fun i => (i.zero, i.size, i.bytes)) = some (some (.nilFunc), 1, 8) := by kernel_rfl
theorem Agg68 : runPure Try.prog (isAgg 68) = some false := by kernel_rfl
theorem Info69 : (Try.prog.info? 69).map (fun i => (i.zero, i.size, i.bytes)) = some (some (.nilFunc), 1, 8) := by kernel_rfl
theorem Agg69 : runPure Try.prog (isAgg 69) = some false := by kernel_rfl
theorem Info70 : (Try.prog.info? 70).map (fun i => (i.zero, i.size, i.bytes)) = some (some (.nilFunc), 1, 8) := by kernel_rfl
theorem Agg70 : runPure Try.prog (isAgg 70) = some false := by kernel_rfl
theorem Info71 : (Try.prog.info? 71).map (fun i => (i.zero, i.size, i.bytes)) = some (some (.nilFunc), 1, 8) := by kernel_rfl
theorem Agg71 : runPure Try.prog (isAgg 71) = some false := by kernel_rfl
theorem Info73 : (Try.prog.info? 73).map (fun i => (i.zero, i.size, i.bytes)) = some (some (.nilFunc), 1, 8) := by kernel_rfl
theorem Agg73 : runPure Try.prog (isAgg 73) = some false := by kernel_rfl
theorem Info74 : (Try.prog.info? 74).map (fun i => (i.zero, i.size, i.bytes)) = some (some (.nilFunc), 1, 8) := by kernel_rfl
theorem Agg74 : runPure Try.prog (isAgg 74) = some false := by kernel_rfl
theorem Info75 : (Try.prog.info? 75).map (fun i => (i.zero, i.size, i.bytes)) = some (some (.nilFunc), 1, 8) := by kernel_rfl
theorem Agg75 : runPure Try.prog (isAgg 75) = some false := by kernel_rfl
theorem Info77 : (Try.prog.info? 77).map (fun i => (i.zero, i.size, i.bytes)) = some (some (.nilFunc), 1, 8) := by kernel_rfl
theorem Agg77 : runPure Try.prog (isAgg 77) = some false := by kernel_rfl
theorem Info78 : (Try.prog.info? 78).map (fun i => (i.zero, i.size, i.bytes)) = some (some (.nilFunc), 1, 8) := by kernel_rfl
theorem Agg78 : runPure Try.prog (isAgg 78) = some false := by kernel_rfl
theorem Info79 : (Try.prog.info? 79).map (fun i => (i.zero, i.size, i.bytes)) = some (some (.nilFunc), 1, 8) := by kernel_rfl
theorem Agg79 : runPure Try.prog (isAgg 79) = some false := by kernel_rfl
theorem Info80 : (Try.prog.info? 80).map (fun i => (i.zero, i.size, i.bytes)) = some (some (.nilFunc), 1, 8) := by kernel_rfl
theorem Agg80 : runPure Try.prog (isAgg 80) = some false := by kernel_rfl
theorem Info81 : (Try.prog.info? 81).map (fun i => (i.zero, i.size, i.bytes)) = some (some (.nilFunc), 1, 8) := by kernel_rfl
theorem Agg81 : runPure Try.prog (isAgg 81) = some false := by kernel_rfl
theorem Info82 : (Try.prog.info? 82).map (fun i => (i.zero, i.size, i.bytes)) = some (some (.nilFunc), 1, 8) := by kernel_rfl
theorem Agg82 : runPure Try.prog (isAgg 82) = some false := by kernel_rfl
theorem Info83 : (Try.prog.info? 83).map (fun i => (i.zero, i.size, i.bytes)) = some (some (.nilFunc), 1, 8) := by kernel_rfl
theorem Agg83 : runPure Try.prog (isAgg 83) = some false := by kernel_rfl
theorem Info84 : (Try.prog.info? 84).map (fun i => (i.zero, i.size, i.bytes)) = some (some (.nilFunc), 1, 8) := by kernel_rfl
theorem Agg84 : runPure Try.prog (isAgg 84) = some false := by kernel_rfl
theorem Info85 : (Try.prog.info? 85).map (fun i => (i.zero, i.size, i.bytes)) = some (some (.nilFunc), 1, 8) := by kernel_rfl
theorem Agg85 : runPure Try.prog (isAgg 85) = some false := by kernel_rfl
theorem Info86 : (Try.prog.info? 86).map (fun i => (i.zero, i.size, i.bytes)) = some (some (.nilFunc), 1, 8) := by kernel_rfl
theorem Agg86 : runPure Try.prog (isAgg 86) = some false := by kernel_rfl
theorem Info87 : (Try.prog.info? 87).map (fun i => (i.zero, i.size, i.bytes)) = some (some (.nilFunc), 1, 8) := by kernel_rfl
theorem Agg87 : runPure Try.prog (isAgg 87) = some false := by kernel_rfl
theorem Info88 : (Try.prog.info? 88).map (fun i => (i.zero, i.size, i.bytes)) = some (some (.nilFunc), 1, 8) := by kernel_rfl
theorem Agg88 : runPure Try.prog (isAgg 88) = some false := by kernel_rfl
theorem Info89 : (Try.prog.info? 89).map (fun i => (i.zero, i.size, i.bytes)) = some (some (.nilFunc), 1, 8) := by kernel_rfl
theorem Agg89 : runPure Try.prog (isAgg 89) = some false := by kernel_rfl
theorem Info90 : (Try.prog.info? 90).map (fun i => (i.zero, i.size, i.bytes)) = some (some (.nilFunc), 1, 8) := by kernel_rfl
theorem Agg90 : runPure Try.prog (isAgg 90) = some false := by kernel_rfl
theorem Info91 : (Try.prog.info? 91).map (fun i => (i.zero, i.size, i.bytes)) = some (some (.nilFunc), 1, 8) := by kernel_rfl
theorem Agg91 : runPure Try.prog (isAgg 91) = some false := by kernel_rfl
theorem Info92 : (Try.prog.info? 92).map (fun i => (i.zero, i.size, i.bytes)) = some (some (.pointer none), 1, 8) := by kernel_rfl
theorem Agg92 : runPure Try.prog (isAgg 92) = some false := by kernel_rfl
theorem Info93 : (Try.prog.info? 93).map (fun i => (i.zero, i.size, i.bytes)) = some (some (.agg #[.int .i64 0, .int .i64 0, .slice none 0 0, .int .i64 0, .int .i64 0]), 5, 56) := by kernel_rfl
theorem Info94 : (Try.prog.info? 94).map (fun i => (i.zero, i.size, i.bytes)) = some (some (.agg #[.int .i64 0, .int .i64 0, .slice none 0 0, .int .i64 0, .int .i64 0]), 5, 56) := by kernel_rfl
theorem Info95 : (Try.prog.info? 95).map (fun i => (i.zero, i.size, i.bytes)) = some (some (.nilFunc), 1, 8) := by kernel_rfl
theorem Agg95 : runPure Try.prog (isAgg 95) = some false := by kernel_rfl
theorem Info97 : (Try.prog.info? 97).map (fun i => (i.zero, i.size, i.bytes)) = some (some (.nilFunc), 1, 8) := by kernel_rfl
theorem Agg97 : runPure Try.prog (isAgg 97) = some false := by kernel_rfl
theorem Info98 : (Try.prog.info? 98).map (fun i => (i.zero, i.size, i.bytes)) = some (some (.nilFunc), 1, 8) := by kernel_rfl
theorem Agg98 : runPure Try.prog (isAgg 98) = some false := by kernel_rfl
theorem Info99 : (Try.prog.info? 99).map (fun i => (i.zero, i.size, i.bytes)) = some (some (.nilFunc), 1, 8) := by kernel_rfl
theorem Agg99 : runPure Try.prog (isAgg 99) = some false := by kernel_rfl
theorem Info100 : (Try.prog.info? 100).map (fun i => (i.zero, i.size, i.bytes)) = some (some (.nilFunc), 1, 8) := by kernel_rfl
theorem Agg100 : runPure Try.prog (isAgg 100) = some false := by kernel_rfl
theorem Info101 : (Try.prog.info? 101).map (fun i => (i.zero, i.size, i.bytes)) = some (some (.nilFunc), 1, 8) := by kernel_rfl
theorem Agg101 : runPure Try.prog (isAgg 101) = some false := by kernel_rfl
theorem UndA102 : Try.prog.underlying 102 = some (.array 2 3) := Try.underlying102
theorem Info102 : (Try.prog.info? 102).map (fun i => (i.zero, i.size, i.bytes)) = some (some (.agg #[.int .i64 0, .int .i64 0]), 2, 16) := by kernel_rfl
theorem Info103 : (Try.prog.info? 103).map (fun i => (i.zero, i.size, i.bytes)) = some (some (.nilFunc), 1, 8) := by kernel_rfl
theorem Agg103 : runPure Try.prog (isAgg 103) = some false := by kernel_rfl
theorem Info104 : (Try.prog.info? 104).map (fun i => (i.zero, i.size, i.bytes)) = some (some (.nilFunc), 1, 8) := by kernel_rfl
theorem Agg104 : runPure Try.prog (isAgg 104) = some false := by kernel_rfl
theorem Info105 : (Try.prog.info? 105).map (fun i => (i.zero, i.size, i.bytes)) = some (some (.map none), 1, 8) := by kernel_rfl
theorem Agg105 : runPure Try.prog (isAgg 105) = some false := by kernel_rfl
theorem Info106 : (Try.prog.info? 106).map (fun i => (i.zero, i.size, i.bytes)) = some (some (.nilFunc), 1, 8) := by kernel_rfl
theorem Agg106 : runPure Try.prog (isAgg 106) = some false := by kernel_rfl
theorem UndA107 : Try.prog.underlying 107 = some (.array 5 3) := Try.underlying107
theorem Info107 : (Try.prog.info? 107).map (fun i => (i.zero, i.size, i.bytes)) = some (some (.agg #[.int .i64 0, .int .i64 0, .int .i64 0, .int .i64 0, .int .i64 0]), 5, 40) := by kernel_rfl
theorem UndA108 : Try.prog.underlying 108 = some (.array 2 107) := Try.underlying108
theorem Info108 : (Try.prog.info? 108).map (fun i => (i.zero, i.size, i.bytes)) = some (some (.agg #[.int .i64 0, .int .i64 0, .int .i64 0, .int .i64 0, .int .i64 0, .int .i64 0, .int .i64 0, .int .i64 0, .int .i64 0, .int .i64 0]), 10, 80) := by kernel_rfl
theorem Info109 : (Try.prog.info? 109).map (fun i => (i.zero, i.size, i.bytes)) = some (some (.agg #[.int .i64 0, .int .i64 0, .int .i64 0, .int .i64 0, .int .i64 0, .int .i64 0, .int .i64 0, .int .i64 0, .int .i64 0, .int .i64 0, .int .i64 0, .int .i64 0, .int .i64 0, .int .i64 0, .int .i64 0, .int .i64 0]), 16, 128) := by kernel_rfl
theorem Info110 : (Try.prog.info? 110).map (fun i => (i.zero, i.size, i.bytes)) = some (some (.agg #[.int .i64 0, .int .i64 0, .int .i64 0, .int .i64 0, .int .i64 0, .int .i64 0, .int .i64 0, .int .i64 0, .int .i64 0, .int .i64 0, .int .i64 0, .int .i64 0, .int .i64 0, .int .i64 0, .int .i64 0, .int .i64 0]), 16, 128) := by kernel_rfl
theorem Info111 : (Try.prog.info? 111).map (fun i => (i.zero, i.size, i.bytes)) = some (some (.nilFunc), 1, 8) := by kernel_rfl
theorem Agg111 : runPure Try.prog (isAgg 111) = some false := by kernel_rfl
theorem Info112 : (Try.prog.info? 112).map (fun i => (i.zero, i.size, i.bytes)) = some (some (.nilFunc), 1, 8) := by kernel_rfl
theorem Agg112 : runPure Try.prog (isAgg 112) = some false := by kernel_rfl
theorem Info113 : (Try.prog.info? 113).map (fun i => (i.zero, i.size, i.bytes)) = some (some (.nilFunc), 1, 8) := by kernel_rfl
theorem Agg113 : runPure Try.prog (isAgg 113) = some false := by kernel_rfl
theorem Info114 : (Try.prog.info? 114).map (fun i => (i.zero, i.size, i.bytes)) = some (some (.int .u64 0), 1, 8) := by kernel_rfl
theorem Agg114 : runPure Try.prog (isAgg 114) = some false := by kernel_rfl
theorem Und115 : Try.prog.underlying 115 = some (.slice 114) := Try.underlying115
theorem Info115 : (Try.prog.info? 115).map (fun i => (i.zero, i.size, i.bytes)) = some (some (.slice none 0 0), 1, 24) := by kernel_rfl
theorem Agg115 : runPure Try.prog (isAgg 115) = some false := by kernel_rfl
theorem Info116 : (Try.prog.info? 116).map (fun i => (i.zero, i.size, i.bytes)) = some (some (.nilFunc), 1, 8) := by kernel_rfl
theorem Agg116 : runPure Try.prog (isAgg 116) = some false := by kernel_rfl
theorem Info117 : (Try.prog.info? 117).map (fun i => (i.zero, i.size, i.bytes)) = some (some (.nilFunc), 1, 8) := by kernel_rfl
theorem Agg117 : runPure Try.prog (isAgg 117) = some false := by kernel_rfl
theorem Info118 : (Try.prog.info? 118).map (fun i => (i.zero, i.size, i.bytes)) = some (some (.nilFunc), 1, 8) := by kernel_rfl
theorem Agg118 : runPure Try.prog (isAgg 118) = some false := by kernel_rfl
theorem UndA119 : Try.prog.underlying 119 = some (.array 4 102) := Try.underlying119
theorem Info119 : (Try.prog.info? 119).map (fun i => (i.zero, i.size, i.bytes)) = some (some (.agg #[.int .i64 0, .int .i64 0, .int .i64 0, .int .i64 0, .int .i64 0, .int .i64 0, .int .i64 0, .int .i64 0]), 8, 64) := by kernel_rfl
theorem Und120 : Try.prog.underlying 120 = some (.slice 4) := Try.underlying120
theorem Info120 : (Try.prog.info? 120).map (fun i => (i.zero, i.size, i.bytes)) = some (some (.slice none 0 0), 1, 24) := by kernel_rfl
theorem Agg120 : runPure Try.prog (isAgg 120) = some false := by kernel_rfl
theorem Info121 : (Try.prog.info? 121).map (fun i => (i.zero, i.size, i.bytes)) = some (some (.nilFunc), 1, 8) := by kernel_rfl
theorem Agg121 : runPure Try.prog (isAgg 121) = some false := by kernel_rfl
theorem Info122 : (Try.prog.info? 122).map (fun i => (i.zero, i.size, i.bytes)) = some (some (.nilFunc), 1, 8) := by kernel_rfl
theorem Agg122 : runPure Try.prog (isAgg 122) = some false := by kernel_rfl
theorem Info123 : (Try.prog.info? 123).map (fun i => (i.zero, i.size, i.bytes)) = some (some (.nilFunc), 1, 8) := by kernel_rfl
theorem Agg123 : runPure Try.prog (isAgg 123) = some false := by kernel_rfl
theorem Info124 : (Try.prog.info? 124).map (fun i => (i.zero, i.size, i.bytes)) = some (some (.nilFunc), 1, 8) := by kernel_rfl
theorem Agg124 : runPure Try.prog (isAgg 124) = some false := by kernel_rfl
theorem Info125 : (Try.prog.info? 125).map (fun i => (i.zero, i.size, i.bytes)) = some (some (.pointer none), 1, 8) := by kernel_rfl
theorem Agg125 : runPure Try.prog (isAgg 125) = some false := by kernel_rfl
theorem Info126 : (Try.prog.info? 126).map (fun i => (i.zero, i.size, i.bytes)) = some (some (.pointer none), 1, 8) := by kernel_rfl
theorem Agg126 : runPure Try.prog (isAgg 126) = some false := by kernel_rfl
theorem Info127 : (Try.prog.info? 127).map (fun i => (i.zero, i.size, i.bytes)) = some (some (.nilFunc), 1, 8) := by kernel_rfl
theorem Agg127 : runPure Try.prog (isAgg 127) = some false := by kernel_rfl
theorem Info128 : (Try.prog.info? 128).map (fun i => (i.zero, i.size, i.bytes)) = some (some (.nilFunc), 1, 8) := by kernel_rfl
theorem Agg128 : runPure Try.prog (isAgg 128) = some false := by kernel_rfl
theorem Info129 : (Try.prog.info? 129).map (fun i => (i.zero, i.size, i.bytes)) = some (some (.agg #[.pointer none, .pointer none, .pointer none, .string ⟨#[]⟩]), 4, 40) := by kernel_rfl
theorem Info130 : (Try.prog.info? 130).map (fun i => (i.zero, i.size, i.bytes)) = some (some (.agg #[.pointer none, .pointer none, .pointer none, .string ⟨#[]⟩]), 4, 40) := by kernel_rfl
theorem UndA131 : Try.prog.underlying 131 = some (.array 0 16) := Try.underlying131
theorem Info131 : (Try.prog.info? 131).map (fun i => (i.zero, i.size, i.bytes)) = some (some (.agg #[]), 0, 0) := by kernel_rfl
theorem Info132 : (Try.prog.info? 132).map (fun i => (i.zero, i.size, i.bytes)) = some (some (.agg #[]), 0, 0) := by kernel_rfl
theorem Info133 : (Try.prog.info? 133).map (fun i => (i.zero, i.size, i.bytes)) = some (some (.agg #[]), 0, 0) := by kernel_rfl
theorem Info134 : (Try.prog.info? 134).map (fun i => (i.zero, i.size, i.bytes)) = some (some (.nilFunc), 1, 8) := by kernel_rfl
theorem Agg134 : runPure Try.prog (isAgg 134) = some false := by kernel_rfl
theorem Info135 : (Try.prog.info? 135).map (fun i => (i.zero, i.size, i.bytes)) = some (some (.int .u32 0), 1, 4) := by kernel_rfl
theorem Agg135 : runPure Try.prog (isAgg 135) = some false := by kernel_rfl
theorem Info136 : (Try.prog.info? 136).map (fun i => (i.zero, i.size, i.bytes)) = some (some (.int .u8 0), 1, 1) := by kernel_rfl
theorem Agg136 : runPure Try.prog (isAgg 136) = some false := by kernel_rfl
theorem Info137 : (Try.prog.info? 137).map (fun i => (i.zero, i.size, i.bytes)) = some (some (.int .u8 0), 1, 1) := by kernel_rfl
theorem Agg137 : runPure Try.prog (isAgg 137) = some false := by kernel_rfl
theorem Info138 : (Try.prog.info? 138).map (fun i => (i.zero, i.size, i.bytes)) = some (some (.nilFunc), 1, 8) := by kernel_rfl
theorem Agg138 : runPure Try.prog (isAgg 138) = some false := by kernel_rfl
theorem Info139 : (Try.prog.info? 139).map (fun i => (i.zero, i.size, i.bytes)) = some (some (.pointer none), 1, 8) := by kernel_rfl
theorem Agg139 : runPure Try.prog (isAgg 139) = some false := by kernel_rfl
theorem Info140 : (Try.prog.info? 140).map (fun i => (i.zero, i.size, i.bytes)) = some (some (.int .i32 0), 1, 4) := by kernel_rfl
theorem Agg140 : runPure Try.prog (isAgg 140) = some false := by kernel_rfl
theorem Info141 : (Try.prog.info? 141).map (fun i => (i.zero, i.size, i.bytes)) = some (some (.int .i32 0), 1, 4) := by kernel_rfl
theorem Agg141 : runPure Try.prog (isAgg 141) = some false := by kernel_rfl
theorem Info142 : (Try.prog.info? 142).map (fun i => (i.zero, i.size, i.bytes)) = some (some (.agg #[.int .u64 0, .int .u64 0, .int .u32 0, .int .u8 0, .int .u8 0, .int .u8 0, .int .u8 0, .nilFunc, .pointer none, .int .i32 0, .int .i32 0]), 11, 48) := by kernel_rfl
theorem Info143 : (Try.prog.info? 143).map (fun i => (i.zero, i.size, i.bytes)) = some (some (.agg #[.int .u64 0, .int .u64 0, .int .u32 0, .int .u8 0, .int .u8 0, .int .u8 0, .int .u8 0, .nilFunc, .pointer none, .int .i32 0, .int .i32 0]), 11, 48) := by kernel_rfl
set_option maxRecDepth 100000 in
theorem Eql7 {a0 b0 : Int} {a1 b1 : Int} {a2 b2 : Bool} {a3 b3 : Int} (w : World) : (Op.equal 7 (.agg #[.int .i64 a0, .int .i64 a1, .bool a2, .int .u8 a3]) (.agg #[.int .i64 b0, .int .i64 b1, .bool b2, .int .u8 b3])).run Try.prog w = .ok (((a0 == b0) && ((a1 == b1) && ((a2 == b2) && (a3 == b3))))) w :=
  eq_struct [a0 == b0, a1 == b1, a2 == b2, a3 == b3] Try.underlying7 (by kernel_rfl) ⟨⟨by decide, by kernel_rfl, _, _, rfl, rfl, eqv_int Try.underlying2⟩, ⟨by decide, by kernel_rfl, _, _, rfl, rfl, eqv_int Try.underlying3⟩, ⟨by decide, by kernel_rfl, _, _, rfl, rfl, eqv_bool Try.underlying4⟩, ⟨by decide, by kernel_rfl, _, _, rfl, rfl, eqv_int Try.underlying6⟩, trivial⟩
abbrev enc7 : (Int × Int × Bool × Int) → List Value := fun p => [Value.int .i64 (p.1), Value.int .i64 (p.2.1), Value.bool (p.2.2.1), Value.int .u8 (p.2.2.2)]
theorem encK7 : EncK enc7 4 := ⟨fun _ => rfl, fun _ u hu => by simp at hu; rcases hu with rfl | rfl | rfl | rfl <;> rfl, by decide⟩
set_option maxRecDepth 100000 in
theorem Eql8 {a0 b0 : Int} {a1 b1 : Int} {a2 b2 : Bool} {a3 b3 : Int} (w : World) : (Op.equal 8 (.agg #[.int .i64 a0, .int .i64 a1, .bool a2, .int .u8 a3]) (.agg #[.int .i64 b0, .int .i64 b1, .bool b2, .int .u8 b3])).run Try.prog w = .ok (((a0 == b0) && ((a1 == b1) && ((a2 == b2) && (a3 == b3))))) w :=
  eq_struct [a0 == b0, a1 == b1, a2 == b2, a3 == b3] Try.underlying8 (by kernel_rfl) ⟨⟨by decide, by kernel_rfl, _, _, rfl, rfl, eqv_int Try.underlying2⟩, ⟨by decide, by kernel_rfl, _, _, rfl, rfl, eqv_int Try.underlying3⟩, ⟨by decide, by kernel_rfl, _, _, rfl, rfl, eqv_bool Try.underlying4⟩, ⟨by decide, by kernel_rfl, _, _, rfl, rfl, eqv_int Try.underlying6⟩, trivial⟩
abbrev enc8 : (Int × Int × Bool × Int) → List Value := fun p => [Value.int .i64 (p.1), Value.int .i64 (p.2.1), Value.bool (p.2.2.1), Value.int .u8 (p.2.2.2)]
theorem encK8 : EncK enc8 4 := ⟨fun _ => rfl, fun _ u hu => by simp at hu; rcases hu with rfl | rfl | rfl | rfl <;> rfl, by decide⟩
set_option maxRecDepth 100000 in
theorem Eql30 {a0 b0 : Int} {a1 b1 : Int} {a2 b2 : Int} {a3 b3 : Int} {a4 b4 : Int} {a5 b5 : Int} {a6 b6 : Int} {a7 b7 : Int} {a8 b8 : Int} (w : World) : (Op.equal 30 (.agg #[.int .i64 a0, .int .i64 a1, .int .i64 a2, .int .i64 a3, .int .i64 a4, .int .i64 a5, .int .i64 a6, .int .i64 a7, .int .i64 a8]) (.agg #[.int .i64 b0, .int .i64 b1, .int .i64 b2, .int .i64 b3, .int .i64 b4, .int .i64 b5, .int .i64 b6, .int .i64 b7, .int .i64 b8])).run Try.prog w = .ok (((a0 == b0) && ((a1 == b1) && ((a2 == b2) && ((a3 == b3) && ((a4 == b4) && ((a5 == b5) && ((a6 == b6) && ((a7 == b7) && (a8 == b8)))))))))) w :=
  eq_array [a0 == b0, a1 == b1, a2 == b2, a3 == b3, a4 == b4, a5 == b5, a6 == b6, a7 == b7, a8 == b8] Try.underlying30 (by kernel_rfl) (by kernel_rfl) rfl ⟨⟨_, _, rfl, rfl, eqv_int Try.underlying3⟩, ⟨_, _, rfl, rfl, eqv_int Try.underlying3⟩, ⟨_, _, rfl, rfl, eqv_int Try.underlying3⟩, ⟨_, _, rfl, rfl, eqv_int Try.underlying3⟩, ⟨_, _, rfl, rfl, eqv_int Try.underlying3⟩, ⟨_, _, rfl, rfl, eqv_int Try.underlying3⟩, ⟨_, _, rfl, rfl, eqv_int Try.underlying3⟩, ⟨_, _, rfl, rfl, eqv_int Try.underlying3⟩, ⟨_, _, rfl, rfl, eqv_int Try.underlying3⟩, trivial⟩
set_option maxRecDepth 100000 in
theorem Eql46 {a0 b0 : Int} {a1 b1 : Int} {a2 b2 : Int} {a3 b3 : Int} (w : World) : (Op.equal 46 (.agg #[.int .i64 a0, .int .i64 a1, .int .i64 a2, .int .i64 a3]) (.agg #[.int .i64 b0, .int .i64 b1, .int .i64 b2, .int .i64 b3])).run Try.prog w = .ok (((a0 == b0) && ((a1 == b1) && ((a2 == b2) && (a3 == b3))))) w :=
  eq_struct [a0 == b0, a1 == b1, a2 == b2, a3 == b3] Try.underlying46 (by kernel_rfl) ⟨⟨by decide, by kernel_rfl, _, _, rfl, rfl, eqv_int Try.underlying3⟩, ⟨by decide, by kernel_rfl, _, _, rfl, rfl, eqv_int Try.underlying3⟩, ⟨by decide, by kernel_rfl, _, _, rfl, rfl, eqv_int Try.underlying3⟩, ⟨by decide, by kernel_rfl, _, _, rfl, rfl, eqv_int Try.underlying3⟩, trivial⟩
abbrev enc46 : (Int × Int × Int × Int) → List Value := fun p => [Value.int .i64 (p.1), Value.int .i64 (p.2.1), Value.int .i64 (p.2.2.1), Value.int .i64 (p.2.2.2)]
theorem encK46 : EncK enc46 4 := ⟨fun _ => rfl, fun _ u hu => by simp at hu; rcases hu with rfl | rfl | rfl | rfl <;> rfl, by decide⟩
set_option maxRecDepth 100000 in
theorem Eql47 {a0 b0 : Int} {a1 b1 : Int} {a2 b2 : Int} {a3 b3 : Int} (w : World) : (Op.equal 47 (.agg #[.int .i64 a0, .int .i64 a1, .int .i64 a2, .int .i64 a3]) (.agg #[.int .i64 b0, .int .i64 b1, .int .i64 b2, .int .i64 b3])).run Try.prog w = .ok (((a0 == b0) && ((a1 == b1) && ((a2 == b2) && (a3 == b3))))) w :=
  eq_struct [a0 == b0, a1 == b1, a2 == b2, a3 == b3] Try.underlying47 (by kernel_rfl) ⟨⟨by decide, by kernel_rfl, _, _, rfl, rfl, eqv_int Try.underlying3⟩, ⟨by decide, by kernel_rfl, _, _, rfl, rfl, eqv_int Try.underlying3⟩, ⟨by decide, by kernel_rfl, _, _, rfl, rfl, eqv_int Try.underlying3⟩, ⟨by decide, by kernel_rfl, _, _, rfl, rfl, eqv_int Try.underlying3⟩, trivial⟩
abbrev enc47 : (Int × Int × Int × Int) → List Value := fun p => [Value.int .i64 (p.1), Value.int .i64 (p.2.1), Value.int .i64 (p.2.2.1), Value.int .i64 (p.2.2.2)]
theorem encK47 : EncK enc47 4 := ⟨fun _ => rfl, fun _ u hu => by simp at hu; rcases hu with rfl | rfl | rfl | rfl <;> rfl, by decide⟩
set_option maxRecDepth 100000 in
theorem Eql102 {a0 b0 : Int} {a1 b1 : Int} (w : World) : (Op.equal 102 (.agg #[.int .i64 a0, .int .i64 a1]) (.agg #[.int .i64 b0, .int .i64 b1])).run Try.prog w = .ok (((a0 == b0) && (a1 == b1))) w :=
  eq_array [a0 == b0, a1 == b1] Try.underlying102 (by kernel_rfl) (by kernel_rfl) rfl ⟨⟨_, _, rfl, rfl, eqv_int Try.underlying3⟩, ⟨_, _, rfl, rfl, eqv_int Try.underlying3⟩, trivial⟩
abbrev enc102 : (Int × Int) → List Value := fun p => [Value.int .i64 (p.1), Value.int .i64 (p.2)]
theorem encK102 : EncK enc102 2 := ⟨fun _ => rfl, fun _ u hu => by simp at hu; rcases hu with rfl | rfl <;> rfl, by decide⟩
set_option maxRecDepth 100000 in
theorem Eql107 {a0 b0 : Int} {a1 b1 : Int} {a2 b2 : Int} {a3 b3 : Int} {a4 b4 : Int} (w : World) : (Op.equal 107 (.agg #[.int .i64 a0, .int .i64 a1, .int .i64 a2, .int .i64 a3, .int .i64 a4]) (.agg #[.int .i64 b0, .int .i64 b1, .int .i64 b2, .int .i64 b3, .int .i64 b4])).run Try.prog w = .ok (((a0 == b0) && ((a1 == b1) && ((a2 == b2) && ((a3 == b3) && (a4 == b4)))))) w :=
  eq_array [a0 == b0, a1 == b1, a2 == b2, a3 == b3, a4 == b4] Try.underlying107 (by kernel_rfl) (by kernel_rfl) rfl ⟨⟨_, _, rfl, rfl, eqv_int Try.underlying3⟩, ⟨_, _, rfl, rfl, eqv_int Try.underlying3⟩, ⟨_, _, rfl, rfl, eqv_int Try.underlying3⟩, ⟨_, _, rfl, rfl, eqv_int Try.underlying3⟩, ⟨_, _, rfl, rfl, eqv_int Try.underlying3⟩, trivial⟩
abbrev enc107 : (Int × Int × Int × Int × Int) → List Value := fun p => [Value.int .i64 (p.1), Value.int .i64 (p.2.1), Value.int .i64 (p.2.2.1), Value.int .i64 (p.2.2.2.1), Value.int .i64 (p.2.2.2.2)]
theorem encK107 : EncK enc107 5 := ⟨fun _ => rfl, fun _ u hu => by simp at hu; rcases hu with rfl | rfl | rfl | rfl | rfl <;> rfl, by decide⟩
abbrev enc119 : (Int × Int × Int × Int × Int × Int × Int × Int) → List Value := fun p => [Value.int .i64 (p.1), Value.int .i64 (p.2.1), Value.int .i64 (p.2.2.1), Value.int .i64 (p.2.2.2.1), Value.int .i64 (p.2.2.2.2.1), Value.int .i64 (p.2.2.2.2.2.1), Value.int .i64 (p.2.2.2.2.2.2.1), Value.int .i64 (p.2.2.2.2.2.2.2)]
theorem encK119 : EncK enc119 8 := ⟨fun _ => rfl, fun _ u hu => by simp at hu; rcases hu with rfl | rfl | rfl | rfl | rfl | rfl | rfl | rfl <;> rfl, by decide⟩


end Go.Proofs.Ytnplejebgbdfpaa
