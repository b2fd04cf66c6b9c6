/- Closed facts on the types and functions of this translation. No condition. -/
import Derived.Test.YtdpmpefjplfgbaaProg
import Derived.Test.YtdpmpefjplfgbaaElm
namespace Go.Proofs.Ytdpmpefjplfgbaa
open Go Go.EL
theorem mix : Try.prog.follows .mixedOrders = true := by kernel_rfl
theorem sc1 : ScalT Try.prog 1 := by unfold ScalT; kernel_rfl
theorem sz1 : (Try.prog.info? 1).map (·.size) = some 1 := by kernel_rfl
theorem sc2 : ScalT Try.prog 2 := by unfold ScalT; kernel_rfl
theorem sz2 : (Try.prog.info? 2).map (·.size) = some 1 := by kernel_rfl
theorem sc3 : ScalT Try.prog 3 := by unfold ScalT; kernel_rfl
theorem sz3 : (Try.prog.info? 3).map (·.size) = some 1 := by kernel_rfl
theorem sc4 : ScalT Try.prog 4 := by unfold ScalT; kernel_rfl
theorem sz4 : (Try.prog.info? 4).map (·.size) = some 1 := by kernel_rfl
theorem sc5 : ScalT Try.prog 5 := by unfold ScalT; kernel_rfl
theorem sz5 : (Try.prog.info? 5).map (·.size) = some 1 := by kernel_rfl
theorem sc6 : ScalT Try.prog 6 := by unfold ScalT; kernel_rfl
theorem sz6 : (Try.prog.info? 6).map (·.size) = some 1 := by kernel_rfl
theorem ag7 : AggT Try.prog 7 4 := ⟨by kernel_rfl, by kernel_rfl⟩
theorem sz7 : (Try.prog.info? 7).map (·.size) = some 4 := by kernel_rfl
theorem ag8 : AggT Try.prog 8 4 := ⟨by kernel_rfl, by kernel_rfl⟩
theorem sz8 : (Try.prog.info? 8).map (·.size) = some 4 := by kernel_rfl
theorem sc9 : ScalT Try.prog 9 := by unfold ScalT; kernel_rfl
theorem sz9 : (Try.prog.info? 9).map (·.size) = some 1 := by kernel_rfl
theorem sc10 : ScalT Try.prog 10 := by unfold ScalT; kernel_rfl
theorem sz10 : (Try.prog.info? 10).map (·.size) = some 1 := by kernel_rfl
theorem sc11 : ScalT Try.prog 11 := by unfold ScalT; kernel_rfl
theorem sz11 : (Try.prog.info? 11).map (·.size) = some 1 := by kernel_rfl
theorem sc12 : ScalT Try.prog 12 := by unfold ScalT; kernel_rfl
theorem sz12 : (Try.prog.info? 12).map (·.size) = some 1 := by kernel_rfl
theorem ag13 : AggT Try.prog 13 2 := ⟨by kernel_rfl, by kernel_rfl⟩
theorem sz13 : (Try.prog.info? 13).map (·.size) = some 2 := by kernel_rfl
theorem ag14 : AggT Try.prog 14 2 := ⟨by kernel_rfl, by kernel_rfl⟩
theorem sz14 : (Try.prog.info? 14).map (·.size) = some 2 := by kernel_rfl
theorem sc15 : ScalT Try.prog 15 := by unfold ScalT; kernel_rfl
theorem sz15 : (Try.prog.info? 15).map (·.size) = some 1 := by kernel_rfl
theorem sc16 : ScalT Try.prog 16 := by unfold ScalT; kernel_rfl
theorem sz16 : (Try.prog.info? 16).map (·.size) = some 1 := by kernel_rfl
theorem sc17 : ScalT Try.prog 17 := by unfold ScalT; kernel_rfl
theorem sz17 : (Try.prog.info? 17).map (·.size) = some 1 := by kernel_rfl
theorem ag18 : AggT Try.prog 18 1 := ⟨by kernel_rfl, by kernel_rfl⟩
theorem sz18 : (Try.prog.info? 18).map (·.size) = some 1 := by kernel_rfl
theorem ag19 : AggT Try.prog 19 1 := ⟨by kernel_rfl, by kernel_rfl⟩
theorem sz19 : (Try.prog.info? 19).map (·.size) = some 1 := by kernel_rfl
theorem sc20 : ScalT Try.prog 20 := by unfold ScalT; kernel_rfl
theorem sz20 : (Try.prog.info? 20).map (·.size) = some 1 := by kernel_rfl
theorem sc21 : ScalT Try.prog 21 := by unfold ScalT; kernel_rfl
theorem sz21 : (Try.prog.info? 21).map (·.size) = some 1 := by kernel_rfl
theorem sc22 : ScalT Try.prog 22 := by unfold ScalT; kernel_rfl
theorem sz22 : (Try.prog.info? 22).map (·.size) = some 1 := by kernel_rfl
theorem ag23 : AggT Try.prog 23 8 := ⟨by kernel_rfl, by kernel_rfl⟩
theorem sz23 : (Try.prog.info? 23).map (·.size) = some 8 := by kernel_rfl
theorem ag24 : AggT Try.prog 24 8 := ⟨by kernel_rfl, by kernel_rfl⟩
theorem sz24 : (Try.prog.info? 24).map (·.size) = some 8 := by kernel_rfl
theorem sc25 : ScalT Try.prog 25 := by unfold ScalT; kernel_rfl
theorem sz25 : (Try.prog.info? 25).map (·.size) = some 1 := by kernel_rfl
theorem ag26 : AggT Try.prog 26 8 := ⟨by kernel_rfl, by kernel_rfl⟩
theorem sz26 : (Try.prog.info? 26).map (·.size) = some 8 := by kernel_rfl
theorem ag27 : AggT Try.prog 27 8 := ⟨by kernel_rfl, by kernel_rfl⟩
theorem sz27 : (Try.prog.info? 27).map (·.size) = some 8 := by kernel_rfl
theorem sc28 : ScalT Try.prog 28 := by unfold ScalT; kernel_rfl
theorem sz28 : (Try.prog.info? 28).map (·.size) = some 1 := by kernel_rfl
theorem sc29 : ScalT Try.prog 29 := by unfold ScalT; kernel_rfl
theorem sz29 : (Try.prog.info? 29).map (·.size) = some 1 := by kernel_rfl
theorem sc31 : ScalT Try.prog 31 := by unfold ScalT; kernel_rfl
theorem sz31 : (Try.prog.info? 31).map (·.size) = some 1 := by kernel_rfl
theorem sc33 : ScalT Try.prog 33 := by unfold ScalT; kernel_rfl
theorem sz33 : (Try.prog.info? 33).map (·.size) = some 1 := by kernel_rfl
theorem sc34 : ScalT Try.prog 34 := by unfold ScalT; kernel_rfl
theorem sz34 : (Try.prog.info? 34).map (·.size) = some 1 := by kernel_rfl
theorem sc35 : ScalT Try.prog 35 := by unfold ScalT; kernel_rfl
theorem sz35 : (Try.prog.info? 35).map (·.size) = some 1 := by kernel_rfl
theorem sc36 : ScalT Try.prog 36 := by unfold ScalT; kernel_rfl
theorem sz36 : (Try.prog.info? 36).map (·.size) = some 1 := by kernel_rfl
theorem sc37 : ScalT Try.prog 37 := by unfold ScalT; kernel_rfl
theorem sz37 : (Try.prog.info? 37).map (·.size) = some 1 := by kernel_rfl
theorem sc38 : ScalT Try.prog 38 := by unfold ScalT; kernel_rfl
theorem sz38 : (Try.prog.info? 38).map (·.size) = some 1 := by kernel_rfl
theorem sc39 : ScalT Try.prog 39 := by unfold ScalT; kernel_rfl
theorem sz39 : (Try.prog.info? 39).map (·.size) = some 1 := by kernel_rfl
theorem ag40 : AggT Try.prog 40 2 := ⟨by kernel_rfl, by kernel_rfl⟩
theorem sz40 : (Try.prog.info? 40).map (·.size) = some 2 := by kernel_rfl
theorem sc41 : ScalT Try.prog 41 := by unfold ScalT; kernel_rfl
theorem sz41 : (Try.prog.info? 41).map (·.size) = some 1 := by kernel_rfl
theorem sc42 : ScalT Try.prog 42 := by unfold ScalT; kernel_rfl
theorem sz42 : (Try.prog.info? 42).map (·.size) = some 1 := by kernel_rfl
theorem sc44 : ScalT Try.prog 44 := by unfold ScalT; kernel_rfl
theorem sz44 : (Try.prog.info? 44).map (·.size) = some 1 := by kernel_rfl
theorem sc45 : ScalT Try.prog 45 := by unfold ScalT; kernel_rfl
theorem sz45 : (Try.prog.info? 45).map (·.size) = some 1 := by kernel_rfl
theorem sc46 : ScalT Try.prog 46 := by unfold ScalT; kernel_rfl
theorem sz46 : (Try.prog.info? 46).map (·.size) = some 1 := by kernel_rfl
theorem sc47 : ScalT Try.prog 47 := by unfold ScalT; kernel_rfl
theorem sz47 : (Try.prog.info? 47).map (·.size) = some 1 := by kernel_rfl
theorem sc48 : ScalT Try.prog 48 := by unfold ScalT; kernel_rfl
theorem sz48 : (Try.prog.info? 48).map (·.size) = some 1 := by kernel_rfl
theorem sc49 : ScalT Try.prog 49 := by unfold ScalT; kernel_rfl
theorem sz49 : (Try.prog.info? 49).map (·.size) = some 1 := by kernel_rfl
theorem sc50 : ScalT Try.prog 50 := by unfold ScalT; kernel_rfl
theorem sz50 : (Try.prog.info? 50).map (·.size) = some 1 := by kernel_rfl
theorem sc51 : ScalT Try.prog 51 := by unfold ScalT; kernel_rfl
theorem sz51 : (Try.prog.info? 51).map (·.size) = some 1 := by kernel_rfl
theorem sc52 : ScalT Try.prog 52 := by unfold ScalT; kernel_rfl
theorem sz52 : (Try.prog.info? 52).map (·.size) = some 1 := by kernel_rfl
theorem sc53 : ScalT Try.prog 53 := by unfold ScalT; kernel_rfl
theorem sz53 : (Try.prog.info? 53).map (·.size) = some 1 := by kernel_rfl
theorem sc54 : ScalT Try.prog 54 := by unfold ScalT; kernel_rfl
theorem sz54 : (Try.prog.info? 54).map (·.size) = some 1 := by kernel_rfl
theorem sc55 : ScalT Try.prog 55 := by unfold ScalT; kernel_rfl
theorem sz55 : (Try.prog.info? 55).map (·.size) = some 1 := by kernel_rfl
theorem sc56 : ScalT Try.prog 56 := by unfold ScalT; kernel_rfl
theorem sz56 : (Try.prog.info? 56).map (·.size) = some 1 := by kernel_rfl
theorem sc57 : ScalT Try.prog 57 := by unfold ScalT; kernel_rfl
theorem sz57 : (Try.prog.info? 57).map (·.size) = some 1 := by kernel_rfl
theorem sc58 : ScalT Try.prog 58 := by unfold ScalT; kernel_rfl
theorem sz58 : (Try.prog.info? 58).map (·.size) = some 1 := by kernel_rfl
theorem sc59 : ScalT Try.prog 59 := by unfold ScalT; kernel_rfl
theorem sz59 : (Try.prog.info? 59).map (·.size) = some 1 := by kernel_rfl
theorem sc60 : ScalT Try.prog 60 := by unfold ScalT; kernel_rfl
theorem sz60 : (Try.prog.info? 60).map (·.size) = some 1 := by kernel_rfl
theorem sc61 : ScalT Try.prog 61 := by unfold ScalT; kernel_rfl
theorem sz61 : (Try.prog.info? 61).map (·.size) = some 1 := by kernel_rfl
theorem sc62 : ScalT Try.prog 62 := by unfold ScalT; kernel_rfl
theorem sz62 : (Try.prog.info? 62).map (·.size) = some 1 := by kernel_rfl
theorem sc63 : ScalT Try.prog 63 := by unfold ScalT; kernel_rfl
theorem sz63 : (Try.prog.info? 63).map (·.size) = some 1 := by kernel_rfl
theorem sc65 : ScalT Try.prog 65 := by unfold ScalT; kernel_rfl
theorem sz65 : (Try.prog.info? 65).map (·.size) = some 1 := by kernel_rfl
theorem sc66 : ScalT Try.prog 66 := by unfold ScalT; kernel_rfl
theorem sz66 : (Try.prog.info? 66).map (·.size) = some 1 := by kernel_rfl
theorem sc67 : ScalT Try.prog 67 := by unfold ScalT; kernel_rfl
theorem sz67 : (Try.prog.info? 67).map (·.size) = some 1 := by kernel_rfl
theorem sc69 : ScalT Try.prog 69 := by unfold ScalT; kernel_rfl
theorem sz69 : (Try.prog.info? 69).map (·.size) = some 1 := by kernel_rfl
theorem sc70 : ScalT Try.prog 70 := by unfold ScalT; kernel_rfl
theorem sz70 : (Try.prog.info? 70).map (·.size) = some 1 := by kernel_rfl
theorem sc71 : ScalT Try.prog 71 := by unfold ScalT; kernel_rfl
theorem sz71 : (Try.prog.info? 71).map (·.size) = some 1 := by kernel_rfl
theorem sc72 : ScalT Try.prog 72 := by unfold ScalT; kernel_rfl
theorem sz72 : (Try.prog.info? 72).map (·.size) = some 1 := by kernel_rfl
theorem sc73 : ScalT Try.prog 73 := by unfold ScalT; kernel_rfl
theorem sz73 : (Try.prog.info? 73).map (·.size) = some 1 := by kernel_rfl
theorem sc74 : ScalT Try.prog 74 := by unfold ScalT; kernel_rfl
theorem sz74 : (Try.prog.info? 74).map (·.size) = some 1 := by kernel_rfl
theorem sc75 : ScalT Try.prog 75 := by unfold ScalT; kernel_rfl
theorem sz75 : (Try.prog.info? 75).map (·.size) = some 1 := by kernel_rfl
theorem sc76 : ScalT Try.prog 76 := by unfold ScalT; kernel_rfl
theorem sz76 : (Try.prog.info? 76).map (·.size) = some 1 := by kernel_rfl
theorem sc77 : ScalT Try.prog 77 := by unfold ScalT; kernel_rfl
theorem sz77 : (Try.prog.info? 77).map (·.size) = some 1 := by kernel_rfl
theorem sc78 : ScalT Try.prog 78 := by unfold ScalT; kernel_rfl
theorem sz78 : (Try.prog.info? 78).map (·.size) = some 1 := by kernel_rfl
theorem sc79 : ScalT Try.prog 79 := by unfold ScalT; kernel_rfl
theorem sz79 : (Try.prog.info? 79).map (·.size) = some 1 := by kernel_rfl
theorem sc80 : ScalT Try.prog 80 := by unfold ScalT; kernel_rfl
theorem sz80 : (Try.prog.info? 80).map (·.size) = some 1 := by kernel_rfl
theorem sc82 : ScalT Try.prog 82 := by unfold ScalT; kernel_rfl
theorem sz82 : (Try.prog.info? 82).map (·.size) = some 1 := by kernel_rfl
theorem sc83 : ScalT Try.prog 83 := by unfold ScalT; kernel_rfl
theorem sz83 : (Try.prog.info? 83).map (·.size) = some 1 := by kernel_rfl
theorem ag84 : AggT Try.prog 84 4 := ⟨by kernel_rfl, by kernel_rfl⟩
theorem sz84 : (Try.prog.info? 84).map (·.size) = some 4 := by kernel_rfl
theorem ag85 : AggT Try.prog 85 4 := ⟨by kernel_rfl, by kernel_rfl⟩
theorem sz85 : (Try.prog.info? 85).map (·.size) = some 4 := by kernel_rfl
theorem ag86 : AggT Try.prog 86 0 := ⟨by kernel_rfl, by kernel_rfl⟩
theorem sz86 : (Try.prog.info? 86).map (·.size) = some 0 := by kernel_rfl
theorem ag87 : AggT Try.prog 87 0 := ⟨by kernel_rfl, by kernel_rfl⟩
theorem sz87 : (Try.prog.info? 87).map (·.size) = some 0 := by kernel_rfl
theorem ag88 : AggT Try.prog 88 0 := ⟨by kernel_rfl, by kernel_rfl⟩
theorem sz88 : (Try.prog.info? 88).map (·.size) = some 0 := by kernel_rfl
theorem sc89 : ScalT Try.prog 89 := by unfold ScalT; kernel_rfl
theorem sz89 : (Try.prog.info? 89).map (·.size) = some 1 := by kernel_rfl
theorem sc90 : ScalT Try.prog 90 := by unfold ScalT; kernel_rfl
theorem sz90 : (Try.prog.info? 90).map (·.size) = some 1 := by kernel_rfl
theorem sc91 : ScalT Try.prog 91 := by unfold ScalT; kernel_rfl
theorem sz91 : (Try.prog.info? 91).map (·.size) = some 1 := by kernel_rfl
theorem sc92 : ScalT Try.prog 92 := by unfold ScalT; kernel_rfl
theorem sz92 : (Try.prog.info? 92).map (·.size) = some 1 := by kernel_rfl
theorem sc93 : ScalT Try.prog 93 := by unfold ScalT; kernel_rfl
theorem sz93 : (Try.prog.info? 93).map (·.size) = some 1 := by kernel_rfl
theorem sc94 : ScalT Try.prog 94 := by unfold ScalT; kernel_rfl
theorem sz94 : (Try.prog.info? 94).map (·.size) = some 1 := by kernel_rfl
theorem sc95 : ScalT Try.prog 95 := by unfold ScalT; kernel_rfl
theorem sz95 : (Try.prog.info? 95).map (·.size) = some 1 := by kernel_rfl
theorem ag96 : AggT Try.prog 96 11 := ⟨by kernel_rfl, by kernel_rfl⟩
theorem sz96 : (Try.prog.info? 96).map (·.size) = some 11 := by kernel_rfl
theorem ag97 : AggT Try.prog 97 11 := ⟨by kernel_rfl, by kernel_rfl⟩
theorem sz97 : (Try.prog.info? 97).map (·.size) = some 11 := by kernel_rfl
theorem sc98 : ScalT Try.prog 98 := by unfold ScalT; kernel_rfl
theorem sz98 : (Try.prog.info? 98).map (·.size) = some 1 := by kernel_rfl
theorem z1 : (Try.prog.info? 1).map (·.zero) = some (some (.nilFunc)) := by kernel_rfl
theorem z2 : (Try.prog.info? 2).map (·.zero) = some (some (.int .i64 0)) := by kernel_rfl
theorem z3 : (Try.prog.info? 3).map (·.zero) = some (some (.int .i64 0)) := by kernel_rfl
theorem z4 : (Try.prog.info? 4).map (·.zero) = some (some (.bool false)) := by kernel_rfl
theorem z5 : (Try.prog.info? 5).map (·.zero) = some (some (.int .u8 0)) := by kernel_rfl
theorem z6 : (Try.prog.info? 6).map (·.zero) = some (some (.int .u8 0)) := by kernel_rfl
theorem z7 : (Try.prog.info? 7).map (·.zero) = some (some (.agg #[.int .i64 0, .int .i64 0, .bool false, .int .u8 0])) := by kernel_rfl
theorem z8 : (Try.prog.info? 8).map (·.zero) = some (some (.agg #[.int .i64 0, .int .i64 0, .bool false, .int .u8 0])) := by kernel_rfl
theorem z9 : (Try.prog.info? 9).map (·.zero) = some (some (.string ⟨#[]⟩)) := by kernel_rfl
theorem z10 : (Try.prog.info? 10).map (·.zero) = some (some (.string ⟨#[]⟩)) := by kernel_rfl
theorem z11 : (Try.prog.info? 11).map (·.zero) = some (some (.string ⟨#[]⟩)) := by kernel_rfl
theorem z12 : (Try.prog.info? 12).map (·.zero) = some (some (.int .u64 0)) := by kernel_rfl
theorem z13 : (Try.prog.info? 13).map (·.zero) = some (some (.agg #[.string ⟨#[]⟩, .int .u64 0])) := by kernel_rfl
theorem z14 : (Try.prog.info? 14).map (·.zero) = some (some (.agg #[.string ⟨#[]⟩, .int .u64 0])) := by kernel_rfl
theorem z15 : (Try.prog.info? 15).map (·.zero) = some (some (.pointer none)) := by kernel_rfl
theorem z16 : (Try.prog.info? 16).map (·.zero) = some (some (.pointer none)) := by kernel_rfl
theorem z17 : (Try.prog.info? 17).map (·.zero) = some (some (.pointer none)) := by kernel_rfl
theorem z18 : (Try.prog.info? 18).map (·.zero) = some (some (.agg #[.pointer none])) := by kernel_rfl
theorem z19 : (Try.prog.info? 19).map (·.zero) = some (some (.agg #[.pointer none])) := by kernel_rfl
theorem z20 : (Try.prog.info? 20).map (·.zero) = some (some (.nilIface)) := by kernel_rfl
theorem z21 : (Try.prog.info? 21).map (·.zero) = some (some (.int .i32 0)) := by kernel_rfl
theorem z22 : (Try.prog.info? 22).map (·.zero) = some (some (.int .u16 0)) := by kernel_rfl
theorem z23 : (Try.prog.info? 23).map (·.zero) = some (some (.agg #[.int .u16 0, .int .u16 0, .int .u16 0, .int .u16 0, .int .u16 0, .int .u16 0, .int .u16 0, .int .u16 0])) := by kernel_rfl
theorem z24 : (Try.prog.info? 24).map (·.zero) = some (some (.agg #[.int .u16 0, .int .u16 0, .int .u16 0, .int .u16 0, .int .u16 0, .int .u16 0, .int .u16 0, .int .u16 0])) := by kernel_rfl
theorem z25 : (Try.prog.info? 25).map (·.zero) = some (some (.nilFunc)) := by kernel_rfl
theorem bz26 : ∀ w, (Instr.build 26 #[]).run Try.prog w = .ok (.agg (vecA zeroM)) w := fun _ => by kernel_rfl
theorem eg26 : Try.prog.eqGuardType Try.prog.depth 26 = false := by kernel_rfl
theorem z26 : (Try.prog.info? 26).map (·.zero) = some (some (.agg (vecA zeroM))) := by kernel_rfl
theorem bz27 : ∀ w, (Instr.build 27 #[]).run Try.prog w = .ok (.agg (vecA zeroM)) w := fun _ => by kernel_rfl
theorem eg27 : Try.prog.eqGuardType Try.prog.depth 27 = false := by kernel_rfl
theorem z27 : (Try.prog.info? 27).map (·.zero) = some (some (.agg (vecA zeroM))) := by kernel_rfl
theorem z28 : (Try.prog.info? 28).map (·.zero) = some (some (.nilFunc)) := by kernel_rfl
theorem z29 : (Try.prog.info? 29).map (·.zero) = some (some (.int .i64 0)) := by kernel_rfl
theorem z31 : (Try.prog.info? 31).map (·.zero) = some (some (.nilFunc)) := by kernel_rfl
theorem z33 : (Try.prog.info? 33).map (·.zero) = some (some (.nilFunc)) := by kernel_rfl
theorem z34 : (Try.prog.info? 34).map (·.zero) = some (some (.nilFunc)) := by kernel_rfl
theorem z35 : (Try.prog.info? 35).map (·.zero) = some (some (.nilFunc)) := by kernel_rfl
theorem z36 : (Try.prog.info? 36).map (·.zero) = some (some (.nilFunc)) := by kernel_rfl
theorem z37 : (Try.prog.info? 37).map (·.zero) = some (some (.nilFunc)) := by kernel_rfl
theorem z38 : (Try.prog.info? 38).map (·.zero) = some (some (.nilFunc)) := by kernel_rfl
theorem z39 : (Try.prog.info? 39).map (·.zero) = some (some (.nilFunc)) := by kernel_rfl
theorem z40 : (Try.prog.info? 40).map (·.zero) = some (some (.agg #[.int .i64 0, .int .i64 0])) := by kernel_rfl
theorem z41 : (Try.prog.info? 41).map (·.zero) = some (some (.nilFunc)) := by kernel_rfl
theorem z42 : (Try.prog.info? 42).map (·.zero) = some (some (.slice none 0 0)) := by kernel_rfl
theorem z44 : (Try.prog.info? 44).map (·.zero) = some (some (.nilFunc)) := by kernel_rfl
theorem z45 : (Try.prog.info? 45).map (·.zero) = some (some (.nilFunc)) := by kernel_rfl
theorem z46 : (Try.prog.info? 46).map (·.zero) = some (some (.nilFunc)) := by kernel_rfl
theorem z47 : (Try.prog.info? 47).map (·.zero) = some (some (.slice none 0 0)) := by kernel_rfl
theorem z48 : (Try.prog.info? 48).map (·.zero) = some (some (.nilFunc)) := by kernel_rfl
theorem z49 : (Try.prog.info? 49).map (·.zero) = some (some (.nilFunc)) := by kernel_rfl
theorem z50 : (Try.prog.info? 50).map (·.zero) = some (some (.nilFunc)) := by kernel_rfl
theorem z51 : (Try.prog.info? 51).map (·.zero) = some (some (.nilFunc)) := by kernel_rfl
theorem z52 : (Try.prog.info? 52).map (·.zero) = some (some (.nilFunc)) := by kernel_rfl
theorem z53 : (Try.prog.info? 53).map (·.zero) = some (some (.nilFunc)) := by kernel_rfl
theorem z54 : (Try.prog.info? 54).map (·.zero) = some (some (.nilFunc)) := by kernel_rfl
theorem z55 : (Try.prog.info? 55).map (·.zero) = some (some (.nilFunc)) := by kernel_rfl
theorem z56 : (Try.prog.info? 56).map (·.zero) = some (some (.nilFunc)) := by kernel_rfl
theorem z57 : (Try.prog.info? 57).map (·.zero) = some (some (.nilFunc)) := by kernel_rfl
theorem z58 : (Try.prog.info? 58).map (·.zero) = some (some (.nilFunc)) := by kernel_rfl
theorem z59 : (Try.prog.info? 59).map (·.zero) = some (some (.nilFunc)) := by kernel_rfl
theorem z60 : (Try.prog.info? 60).map (·.zero) = some (some (.nilFunc)) := by kernel_rfl
theorem z61 : (Try.prog.info? 61).map (·.zero) = some (some (.int .u64 0)) := by kernel_rfl
theorem z62 : (Try.prog.info? 62).map (·.zero) = some (some (.nilFunc)) := by kernel_rfl
theorem z63 : (Try.prog.info? 63).map (·.zero) = some (some (.int .i64 0)) := by kernel_rfl
theorem z65 : (Try.prog.info? 65).map (·.zero) = some (some (.nilFunc)) := by kernel_rfl
theorem z66 : (Try.prog.info? 66).map (·.zero) = some (some (.nilFunc)) := by kernel_rfl
theorem z67 : (Try.prog.info? 67).map (·.zero) = some (some (.nilFunc)) := by kernel_rfl
theorem z69 : (Try.prog.info? 69).map (·.zero) = some (some (.nilFunc)) := by kernel_rfl
theorem z70 : (Try.prog.info? 70).map (·.zero) = some (some (.nilFunc)) := by kernel_rfl
theorem z71 : (Try.prog.info? 71).map (·.zero) = some (some (.int .u32 0)) := by kernel_rfl
theorem z72 : (Try.prog.info? 72).map (·.zero) = some (some (.nilFunc)) := by kernel_rfl
theorem z73 : (Try.prog.info? 73).map (·.zero) = some (some (.int .u64 0)) := by kernel_rfl
theorem z74 : (Try.prog.info? 74).map (·.zero) = some (some (.int .u64 0)) := by kernel_rfl
theorem z75 : (Try.prog.info? 75).map (·.zero) = some (some (.nilFunc)) := by kernel_rfl
theorem z76 : (Try.prog.info? 76).map (·.zero) = some (some (.nilFunc)) := by kernel_rfl
theorem z77 : (Try.prog.info? 77).map (·.zero) = some (some (.nilFunc)) := by kernel_rfl
theorem z78 : (Try.prog.info? 78).map (·.zero) = some (some (.pointer none)) := by kernel_rfl
theorem z79 : (Try.prog.info? 79).map (·.zero) = some (some (.nilFunc)) := by kernel_rfl
theorem z80 : (Try.prog.info? 80).map (·.zero) = some (some (.pointer none)) := by kernel_rfl
theorem z82 : (Try.prog.info? 82).map (·.zero) = some (some (.nilFunc)) := by kernel_rfl
theorem z83 : (Try.prog.info? 83).map (·.zero) = some (some (.nilFunc)) := by kernel_rfl
theorem z84 : (Try.prog.info? 84).map (·.zero) = some (some (.agg #[.pointer none, .pointer none, .pointer none, .string ⟨#[]⟩])) := by kernel_rfl
theorem z85 : (Try.prog.info? 85).map (·.zero) = some (some (.agg #[.pointer none, .pointer none, .pointer none, .string ⟨#[]⟩])) := by kernel_rfl
theorem z86 : (Try.prog.info? 86).map (·.zero) = some (some (.agg #[])) := by kernel_rfl
theorem z87 : (Try.prog.info? 87).map (·.zero) = some (some (.agg #[])) := by kernel_rfl
theorem z88 : (Try.prog.info? 88).map (·.zero) = some (some (.agg #[])) := by kernel_rfl
theorem z89 : (Try.prog.info? 89).map (·.zero) = some (some (.nilFunc)) := by kernel_rfl
theorem z90 : (Try.prog.info? 90).map (·.zero) = some (some (.int .u8 0)) := by kernel_rfl
theorem z91 : (Try.prog.info? 91).map (·.zero) = some (some (.int .u8 0)) := by kernel_rfl
theorem z92 : (Try.prog.info? 92).map (·.zero) = some (some (.nilFunc)) := by kernel_rfl
theorem z93 : (Try.prog.info? 93).map (·.zero) = some (some (.pointer none)) := by kernel_rfl
theorem z94 : (Try.prog.info? 94).map (·.zero) = some (some (.int .i32 0)) := by kernel_rfl
theorem z95 : (Try.prog.info? 95).map (·.zero) = some (some (.int .i32 0)) := by kernel_rfl
theorem z96 : (Try.prog.info? 96).map (·.zero) = some (some (.agg #[.int .u64 0, .int .u64 0, .int .u32 0, .int .u8 0, .int .u8 0, .int .u8 0, .int .u8 0, .nilFunc, .pointer none, .int .i32 0, .int .i32 0])) := by kernel_rfl
theorem z97 : (Try.prog.info? 97).map (·.zero) = some (some (.agg #[.int .u64 0, .int .u64 0, .int .u32 0, .int .u8 0, .int .u8 0, .int .u8 0, .int .u8 0, .nilFunc, .pointer none, .int .i32 0, .int .i32 0])) := by kernel_rfl
theorem z98 : (Try.prog.info? 98).map (·.zero) = some (some (.pointer none)) := by kernel_rfl
theorem E3 : Enters Try.prog 3 := enters_of Try.func3 (by kernel_rfl) rfl
theorem E4 : Enters Try.prog 4 := enters_of Try.func4 (by kernel_rfl) rfl
theorem E5 : Enters Try.prog 5 := enters_of Try.func5 (by kernel_rfl) rfl
theorem E6 : Enters Try.prog 6 := enters_of Try.func6 (by kernel_rfl) rfl
theorem E7 : Enters Try.prog 7 := enters_of Try.func7 (by kernel_rfl) rfl
theorem E8 : Enters Try.prog 8 := enters_of Try.func8 (by kernel_rfl) rfl
theorem E9 : Enters Try.prog 9 := enters_of Try.func9 (by kernel_rfl) rfl
theorem E10 : Enters Try.prog 10 := enters_of Try.func10 (by kernel_rfl) rfl
theorem E11 : Enters Try.prog 11 := enters_of Try.func11 (by kernel_rfl) rfl
theorem E12 : Enters Try.prog 12 := enters_of Try.func12 (by kernel_rfl) rfl
theorem E13 : Enters Try.prog 13 := enters_of Try.func13 (by kernel_rfl) rfl
theorem E14 : Enters Try.prog 14 := enters_of Try.func14 (by kernel_rfl) rfl
theorem E15 : Enters Try.prog 15 := enters_of Try.func15 (by kernel_rfl) rfl
theorem E16 : Enters Try.prog 16 := enters_of Try.func16 (by kernel_rfl) rfl
theorem E17 : Enters Try.prog 17 := enters_of Try.func17 (by kernel_rfl) rfl
theorem E18 : Enters Try.prog 18 := enters_of Try.func18 (by kernel_rfl) rfl
theorem E19 : Enters Try.prog 19 := enters_of Try.func19 (by kernel_rfl) rfl
theorem E20 : Enters Try.prog 20 := enters_of Try.func20 (by kernel_rfl) rfl
theorem E21 : Enters Try.prog 21 := enters_of Try.func21 (by kernel_rfl) rfl
theorem E22 : Enters Try.prog 22 := enters_of Try.func22 (by kernel_rfl) rfl
theorem E23 : Enters Try.prog 23 := enters_of Try.func23 (by kernel_rfl) rfl
theorem E24 : Enters Try.prog 24 := enters_of Try.func24 (by kernel_rfl) rfl
theorem E25 : Enters Try.prog 25 := enters_of Try.func25 (by kernel_rfl) rfl
theorem E26 : Enters Try.prog 26 := enters_of Try.func26 (by kernel_rfl) rfl
theorem E27 : Enters Try.prog 27 := enters_of Try.func27 (by kernel_rfl) rfl
theorem E28 : Enters Try.prog 28 := enters_of Try.func28 (by kernel_rfl) rfl
theorem E29 : Enters Try.prog 29 := enters_of Try.func29 (by kernel_rfl) rfl
theorem E30 : Enters Try.prog 30 := enters_of Try.func30 (by kernel_rfl) rfl
theorem E31 : Enters Try.prog 31 := enters_of Try.func31 (by kernel_rfl) rfl
theorem E32 : Enters Try.prog 32 := enters_of Try.func32 (by kernel_rfl) rfl
theorem E33 : Enters Try.prog 33 := enters_of Try.func33 (by kernel_rfl) rfl
theorem E34 : Enters Try.prog 34 := enters_of Try.func34 (by kernel_rfl) rfl
theorem E35 : Enters Try.prog 35 := enters_of Try.func35 (by kernel_rfl) rfl
theorem E36 : Enters Try.prog 36 := enters_of Try.func36 (by kernel_rfl) rfl
theorem E37 : Enters Try.prog 37 := enters_of Try.func37 (by kernel_rfl) rfl
theorem E38 : Enters Try.prog 38 := enters_of Try.func38 (by kernel_rfl) rfl
theorem E39 : Enters Try.prog 39 := enters_of Try.func39 (by kernel_rfl) rfl
theorem E40 : Enters Try.prog 40 := enters_of Try.func40 (by kernel_rfl) rfl
theorem E41 : Enters Try.prog 41 := enters_of Try.func41 (by kernel_rfl) rfl
theorem E42 : Enters Try.prog 42 := enters_of Try.func42 (by kernel_rfl) rfl
theorem E43 : Enters Try.prog 43 := enters_of Try.func43 (by kernel_rfl) rfl
theorem E44 : Enters Try.prog 44 := enters_of Try.func44 (by kernel_rfl) rfl
theorem E45 : Enters Try.prog 45 := enters_of Try.func45 (by kernel_rfl) rfl
theorem E46 : Enters Try.prog 46 := enters_of Try.func46 (by kernel_rfl) rfl
theorem E47 : Enters Try.prog 47 := enters_of Try.func47 (by kernel_rfl) rfl
theorem E48 : Enters Try.prog 48 := enters_of Try.func48 (by kernel_rfl) rfl
theorem E49 : Enters Try.prog 49 := enters_of Try.func49 (by kernel_rfl) rfl
theorem E50 : Enters Try.prog 50 := enters_of Try.func50 (by kernel_rfl) rfl
theorem E51 : Enters Try.prog 51 := enters_of Try.func51 (by kernel_rfl) rfl
theorem E52 : Enters Try.prog 52 := enters_of Try.func52 (by kernel_rfl) rfl
theorem E53 : Enters Try.prog 53 := enters_of Try.func53 (by kernel_rfl) rfl
theorem E54 : Enters Try.prog 54 := enters_of Try.func54 (by kernel_rfl) rfl
theorem E55 : Enters Try.prog 55 := enters_of Try.func55 (by kernel_rfl) rfl
theorem E56 : Enters Try.prog 56 := enters_of Try.func56 (by kernel_rfl) rfl
theorem E57 : Enters Try.prog 57 := enters_of Try.func57 (by kernel_rfl) rfl
theorem E58 : Enters Try.prog 58 := enters_of Try.func58 (by kernel_rfl) rfl
theorem E59 : Enters Try.prog 59 := enters_of Try.func59 (by kernel_rfl) rfl
theorem E60 : Enters Try.prog 60 := enters_of Try.func60 (by kernel_rfl) rfl
end Go.Proofs.Ytdpmpefjplfgbaa
