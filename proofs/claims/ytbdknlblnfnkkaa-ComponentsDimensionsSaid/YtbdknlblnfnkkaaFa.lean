/- Closed facts on types and functions. No condition. -/
import Derived.Test.YtbdknlblnfnkkaaED
import Derived.Test.YtbdknlblnfnkkaaEC
import Derived.Test.YtbdknlblnfnkkaaProg
namespace Go.Proofs.Ytbdknlblnfnkkaa
open Go Go.EL Go.RowKit Go.Proofs
theorem mix : Try.prog.follows .mixedOrders = true := by kernel_rfl
theorem E3 : Enters Try.prog 3 := enters_of Try.func3 (by kernel_rfl) rfl
theorem E4 : Enters Try.prog 4 := enters_of Try.func4 (by kernel_rfl) rfl
theorem E5 : Enters Try.prog 5 := enters_of Try.func5 (by kernel_rfl) rfl
theorem E6 : Enters Try.prog 6 := enters_of Try.func6 (by kernel_rfl) rfl
theorem E7 : Enters Try.prog 7 := enters_of Try.func7 (by kernel_rfl) rfl
theorem E8 : Enters Try.prog 8 := enters_of Try.func8 (by kernel_rfl) rfl
theorem E9 : Enters Try.prog 9 := enters_of Try.func9 (by kernel_rfl) rfl
theorem E10 : Enters Try.prog 10 := enters_of Try.func10 (by kernel_rfl) rfl
theorem E11 : Enters Try.prog 11 := enters_of Try.func11 (by kernel_rfl) rfl
theorem E12 : Enters Try.prog 12 := enters_of Try.func12 (by kernel_rfl) rfl
theorem E13 : Enters Try.prog 13 := enters_of Try.func13 (by kernel_rfl) rfl
theorem E14 : Enters Try.prog 14 := enters_of Try.func14 (by kernel_rfl) rfl
theorem E15 : Enters Try.prog 15 := enters_of Try.func15 (by kernel_rfl) rfl
theorem E16 : Enters Try.prog 16 := enters_of Try.func16 (by kernel_rfl) rfl
theorem E17 : Enters Try.prog 17 := enters_of Try.func17 (by kernel_rfl) rfl
theorem E18 : Enters Try.prog 18 := enters_of Try.func18 (by kernel_rfl) rfl
theorem E19 : Enters Try.prog 19 := enters_of Try.func19 (by kernel_rfl) rfl
theorem E20 : Enters Try.prog 20 := enters_of Try.func20 (by kernel_rfl) rfl
theorem E21 : Enters Try.prog 21 := enters_of Try.func21 (by kernel_rfl) rfl
theorem E22 : Enters Try.prog 22 := enters_of Try.func22 (by kernel_rfl) rfl
theorem E23 : Enters Try.prog 23 := enters_of Try.func23 (by kernel_rfl) rfl
theorem E24 : Enters Try.prog 24 := enters_of Try.func24 (by kernel_rfl) rfl
theorem E25 : Enters Try.prog 25 := enters_of Try.func25 (by kernel_rfl) rfl
theorem E26 : Enters Try.prog 26 := enters_of Try.func26 (by kernel_rfl) rfl
theorem E27 : Enters Try.prog 27 := enters_of Try.func27 (by kernel_rfl) rfl
theorem E28 : Enters Try.prog 28 := enters_of Try.func28 (by kernel_rfl) rfl
theorem E29 : Enters Try.prog 29 := enters_of Try.func29 (by kernel_rfl) rfl
theorem E30 : Enters Try.prog 30 := enters_of Try.func30 (by kernel_rfl) rfl
theorem E31 : Enters Try.prog 31 := enters_of Try.func31 (by kernel_rfl) rfl
theorem E32 : Enters Try.prog 32 := enters_of Try.func32 (by kernel_rfl) rfl
theorem E33 : Enters Try.prog 33 := enters_of Try.func33 (by kernel_rfl) rfl
theorem E34 : Enters Try.prog 34 := enters_of Try.func34 (by kernel_rfl) rfl
theorem E35 : Enters Try.prog 35 := enters_of Try.func35 (by kernel_rfl) rfl
theorem E36 : Enters Try.prog 36 := enters_of Try.func36 (by kernel_rfl) rfl
theorem E37 : Enters Try.prog 37 := enters_of Try.func37 (by kernel_rfl) rfl
theorem E38 : Enters Try.prog 38 := enters_of Try.func38 (by kernel_rfl) rfl
theorem E39 : Enters Try.prog 39 := enters_of Try.func39 (by kernel_rfl) rfl
theorem E40 : Enters Try.prog 40 := enters_of Try.func40 (by kernel_rfl) rfl
theorem E41 : Enters Try.prog 41 := enters_of Try.func41 (by kernel_rfl) rfl
theorem E42 : Enters Try.prog 42 := enters_of Try.func42 (by kernel_rfl) rfl
theorem E43 : Enters Try.prog 43 := enters_of Try.func43 (by kernel_rfl) rfl
theorem E44 : Enters Try.prog 44 := enters_of Try.func44 (by kernel_rfl) rfl
theorem E45 : Enters Try.prog 45 := enters_of Try.func45 (by kernel_rfl) rfl
theorem E46 : Enters Try.prog 46 := enters_of Try.func46 (by kernel_rfl) rfl
theorem E47 : Enters Try.prog 47 := enters_of Try.func47 (by kernel_rfl) rfl
theorem E48 : Enters Try.prog 48 := enters_of Try.func48 (by kernel_rfl) rfl
theorem E49 : Enters Try.prog 49 := enters_of Try.func49 (by kernel_rfl) rfl
theorem E50 : Enters Try.prog 50 := enters_of Try.func50 (by kernel_rfl) rfl
theorem E51 : Enters Try.prog 51 := enters_of Try.func51 (by kernel_rfl) rfl
theorem E52 : Enters Try.prog 52 := enters_of Try.func52 (by kernel_rfl) rfl
theorem E53 : Enters Try.prog 53 := enters_of Try.func53 (by kernel_rfl) rfl
theorem E54 : Enters Try.prog 54 := enters_of Try.func54 (by kernel_rfl) rfl
theorem E55 : Enters Try.prog 55 := enters_of Try.func55 (by kernel_rfl) rfl
theorem E56 : Enters Try.prog 56 := enters_of Try.func56 (by kernel_rfl) rfl
theorem E57 : Enters Try.prog 57 := enters_of Try.func57 (by kernel_rfl) rfl
theorem E58 : Enters Try.prog 58 := enters_of Try.func58 (by kernel_rfl) rfl
theorem E59 : Enters Try.prog 59 := enters_of Try.func59 (by kernel_rfl) rfl
theorem E60 : Enters Try.prog 60 := enters_of Try.func60 (by kernel_rfl) rfl
theorem E61 : Enters Try.prog 61 := enters_of Try.func61 (by kernel_rfl) rfl
theorem E62 : Enters Try.prog 62 := enters_of Try.func62 (by kernel_rfl) rfl
theorem E63 : Enters Try.prog 63 := enters_of Try.func63 (by kernel_rfl) rfl
theorem E64 : Enters Try.prog 64 := enters_of Try.func64 (by kernel_rfl) rfl
theorem E65 : Enters Try.prog 65 := enters_of Try.func65 (by kernel_rfl) rfl
theorem E66 : Enters Try.prog 66 := enters_of Try.func66 (by kernel_rfl) rfl
theorem E67 : Enters Try.prog 67 := enters_of Try.func67 (by kernel_rfl) rfl
theorem E68 : Enters Try.prog 68 := enters_of Try.func68 (by kernel_rfl) rfl
theorem E69 : Enters Try.prog 69 := enters_of Try.func69 (by kernel_rfl) rfl
theorem E70 : Enters Try.prog 70 := enters_of Try.func70 (by kernel_rfl) rfl
theorem E71 : Enters Try.prog 71 := enters_of Try.func71 (by kernel_rfl) rfl
theorem E72 : Enters Try.prog 72 := enters_of Try.func72 (by kernel_rfl) rfl
theorem E73 : Enters Try.prog 73 := enters_of Try.func73 (by kernel_rfl) rfl
theorem E74 : Enters Try.prog 74 := enters_of Try.func74 (by kernel_rfl) rfl
theorem E75 : Enters Try.prog 75 := enters_of Try.func75 (by kernel_rfl) rfl
theorem E76 : Enters Try.prog 76 := enters_of Try.func76 (by kernel_rfl) rfl
theorem E77 : Enters Try.prog 77 := enters_of Try.func77 (by kernel_rfl) rfl
theorem E78 : Enters Try.prog 78 := enters_of Try.func78 (by kernel_rfl) rfl
theorem E79 : Enters Try.prog 79 := enters_of Try.func79 (by kernel_rfl) rfl
theorem E80 : Enters Try.prog 80 := enters_of Try.func80 (by kernel_rfl) rfl
theorem E81 : Enters Try.prog 81 := enters_of Try.func81 (by kernel_rfl) rfl
theorem E82 : Enters Try.prog 82 := enters_of Try.func82 (by kernel_rfl) rfl
theorem E83 : Enters Try.prog 83 := enters_of Try.func83 (by kernel_rfl) rfl
theorem E84 : Enters Try.prog 84 := enters_of Try.func84 (by kernel_rfl) rfl
theorem E85 : Enters Try.prog 85 := enters_of Try.func85 (by kernel_rfl) rfl
theorem E86 : Enters Try.prog 86 := enters_of Try.func86 (by kernel_rfl) rfl
theorem E88 : Enters Try.prog 88 := enters_of Try.func88 (by kernel_rfl) rfl
theorem E89 : Enters Try.prog 89 := enters_of Try.func89 (by kernel_rfl) rfl
theorem E90 : Enters Try.prog 90 := enters_of Try.func90 (by kernel_rfl) rfl
theorem E91 : Enters Try.prog 91 := enters_of Try.func91 (by kernel_rfl) rfl
theorem E92 : Enters Try.prog 92 := enters_of Try.func92 (by kernel_rfl) rfl
theorem E93 : Enters Try.prog 93 := enters_of Try.func93 (by kernel_rfl) rfl
theorem E94 : Enters Try.prog 94 := enters_of Try.func94 (by kernel_rfl) rfl
theorem E103 : Enters Try.prog 103 := enters_of Try.func103 (by kernel_rfl) rfl
theorem E104 : Enters Try.prog 104 := enters_of Try.func104 (by kernel_rfl) rfl
theorem E105 : Enters Try.prog 105 := enters_of Try.func105 (by kernel_rfl) rfl
theorem E106 : Enters Try.prog 106 := enters_of Try.func106 (by kernel_rfl) rfl
theorem E107 : Enters Try.prog 107 := enters_of Try.func107 (by kernel_rfl) rfl
theorem E113 : Enters Try.prog 113 := enters_of Try.func113 (by kernel_rfl) rfl
theorem E116 : Enters Try.prog 116 := enters_of Try.func116 (by kernel_rfl) rfl
theorem E118 : Enters Try.prog 118 := enters_of Try.func118 (by kernel_rfl) rfl
theorem E119 : Enters Try.prog 119 := enters_of Try.func119 (by kernel_rfl) rfl
theorem E121 : Enters Try.prog 121 := enters_of Try.func121 (by kernel_rfl) rfl
theorem E125 : Enters Try.prog 125 := enters_of Try.func125 (by kernel_rfl) rfl
theorem E126 : Enters Try.prog 126 := enters_of Try.func126 (by kernel_rfl) rfl
theorem E127 : Enters Try.prog 127 := enters_of Try.func127 (by kernel_rfl) rfl
theorem ag25 : AggT Try.prog 25 2 := ⟨by kernel_rfl, by kernel_rfl⟩
theorem ag48 : AggT Try.prog 48 8 := ⟨by kernel_rfl, by kernel_rfl⟩
theorem eg48 : Try.prog.eqGuardType Try.prog.depth 48 = false := by kernel_rfl
theorem el5 : ElT Try.prog 5 (.int .u8 0) 1 1 := by unfold ElT; kernel_rfl
theorem el28 : ElT Try.prog 28 (.slice none 0 0) 1 24 := by unfold ElT; kernel_rfl
theorem el48 : ElT Try.prog 48 (.agg (vecG (Value.int .i64) 8 (fun _ => 0)).toArray) 8 64 := by unfold ElT; kernel_rfl
theorem el60 : ElT Try.prog 60 (.agg ([.int .u8 0, .slice none 0 0]).toArray) 2 32 := by unfold ElT; kernel_rfl
def ky5 : Ky Try.prog 5 Int := Ky.int Try.underlying5
theorem laid48 : laidOutB Try.prog = true := by kernel_rfl
def ky48 : Ky Try.prog 48 (Fin 8 → Int) := Ky.arr Try.underlying48 Try.underlying3 (by kernel_rfl) (by kernel_rfl) (by kernel_rfl) laid48 (of_decide_eq_true (by kernel_rfl)) (by kernel_rfl)
theorem sc3 : ScalT Try.prog 3 := by unfold ScalT; kernel_rfl
theorem sc4 : ScalT Try.prog 4 := by unfold ScalT; kernel_rfl
theorem sc5 : ScalT Try.prog 5 := by unfold ScalT; kernel_rfl
theorem sc23 : ScalT Try.prog 23 := by unfold ScalT; kernel_rfl
theorem sc28 : ScalT Try.prog 28 := by unfold ScalT; kernel_rfl
theorem sc33 : ScalT Try.prog 33 := by unfold ScalT; kernel_rfl
theorem sc69 : ScalT Try.prog 69 := by unfold ScalT; kernel_rfl
theorem sc82 : ScalT Try.prog 82 := by unfold ScalT; kernel_rfl
theorem sz3 : (Try.prog.info? 3).map (·.size) = some 1 := by kernel_rfl
theorem sz4 : (Try.prog.info? 4).map (·.size) = some 1 := by kernel_rfl
theorem sz5 : (Try.prog.info? 5).map (·.size) = some 1 := by kernel_rfl
theorem sz28 : (Try.prog.info? 28).map (·.size) = some 1 := by kernel_rfl
theorem sz33 : (Try.prog.info? 33).map (·.size) = some 1 := by kernel_rfl
theorem sz48 : (Try.prog.info? 48).map (·.size) = some 8 := by kernel_rfl
theorem sz55 : (Try.prog.info? 55).map (·.size) = some 256 := by kernel_rfl
theorem sz60 : (Try.prog.info? 60).map (·.size) = some 2 := by kernel_rfl
theorem sz65 : (Try.prog.info? 65).map (·.size) = some 4 := by kernel_rfl
theorem z3 : (Try.prog.info? 3).map (·.zero) = some (some (.int .i64 0)) := by kernel_rfl
theorem z5 : (Try.prog.info? 5).map (·.zero) = some (some (.int .u8 0)) := by kernel_rfl
theorem z28 : (Try.prog.info? 28).map (·.zero) = some (some (.slice none 0 0)) := by kernel_rfl
theorem z48 : (Try.prog.info? 48).map (·.zero) = some (some (.agg (vecG (Value.int .i64) 8 (fun _ => 0)).toArray)) := by kernel_rfl
theorem z55 : (Try.prog.info? 55).map (·.zero) = some (some (.agg (vecG Value.bool 256 (fun _ => false)).toArray)) := by kernel_rfl
theorem zv74 (w : World) : (zeroValue 74).run Try.prog w = .ok (.slice none 0 0) w := by kernel_rfl
end Go.Proofs.Ytbdknlblnfnkkaa
