/- The law VersionValid holds for every input: a part of its proof (what the code does, plain models, and what they return). No condition. -/
import Derived.Test.YtnjiloaolgjedaaGreatRows
import Derived.Test.YtnjiloaolgjedaaGreatXV12b
import Derived.Test.YtnjiloaolgjedaaGreatXV12a
import Derived.Test.YtnjiloaolgjedaaGreatProg
set_option linter.unusedVariables false
set_option linter.unusedSimpArgs false
namespace Go.Proofs.YtnjiloaolgjedaaGreat
open Go.IntKind (i8 i16 i32 i64 u8 u16 u32 u64)
open Go.Proofs.Tryz
open Go Go.EL Go.RowKit Go.Proofs
theorem ownK:ownKnob prog.godebug=none:=by kernel_rfl
theorem laidK:laidOutB prog=true:=by kernel_rfl
end Go.Proofs.YtnjiloaolgjedaaGreat

namespace Go.Proofs.YtnjiloaolgjedaaGreat
open Go.IntKind (i8 i16 i32 i64 u8 u16 u32 u64)
open Go.Proofs.Tryz
open Go Go.EL Go.RowKit Go.Proofs
theorem mix:prog.follows .mixedOrders=true:=by kernel_rfl
def FaP(t i k:Nat):Prop:=∀ ⦃N:Nat⦄ ⦃dst:Option Nat⦄ ⦃ty:TypeId⦄ ⦃pos:String⦄ ⦃af:Array Edge⦄ ⦃g:Option (Nat×Bool)⦄ ⦃fr:Fr⦄ ⦃S:Asrt⦄ ⦃x:Operand⦄ ⦃b off:Nat⦄,fr.ev x=some (.pointer (some ⟨b,off,none⟩))->Y0 prog N ⟨dst,.fieldAddr t x i,ty,pos,af,g⟩ fr S (.pointer (some ⟨b,off+k,none⟩))
theorem faP{t i k:Nat}{fs:Array Field}{fd:Field}(hs:prog.underlying t=some (.struct fs))(hf:fs[i]? = some fd)(hk:fd.offset=k)(hp:∀ b off w,(fieldPlace ⟨b,off,none⟩ fd).run prog w = .ok ⟨b,off+fd.offset,none⟩ w):FaP t i k:=by
 intro N dst ty pos af g fr S x b off hx
 subst hk
 exact Y0.fieldAddr hs hf (hp b off) hx
abbrev En:=Enters prog
abbrev eo:=@enters_of
theorem E9:En 9:=eo func9 (by kernel_rfl) rfl
theorem E10:En 10:=eo func10 (by kernel_rfl) rfl
theorem E11:En 11:=eo func11 (by kernel_rfl) rfl
theorem E12:En 12:=eo func12 (by kernel_rfl) rfl
theorem E13:En 13:=eo func13 (by kernel_rfl) rfl
theorem E16:En 16:=eo func16 (by kernel_rfl) rfl
theorem E18:En 18:=eo func18 (by kernel_rfl) rfl
theorem E19:En 19:=eo func19 (by kernel_rfl) rfl
theorem E20:En 20:=eo func20 (by kernel_rfl) rfl
theorem E22:En 22:=eo func22 (by kernel_rfl) rfl
theorem E25:En 25:=eo func25 (by kernel_rfl) rfl
theorem E26:En 26:=eo func26 (by kernel_rfl) rfl
theorem E27:En 27:=eo func27 (by kernel_rfl) rfl
theorem E28:En 28:=eo func28 (by kernel_rfl) rfl
theorem E30:En 30:=eo func30 (by kernel_rfl) rfl
theorem E32:En 32:=eo func32 (by kernel_rfl) rfl
theorem E33:En 33:=eo func33 (by kernel_rfl) rfl
theorem E34:En 34:=eo func34 (by kernel_rfl) rfl
theorem E35:En 35:=eo func35 (by kernel_rfl) rfl
theorem E36:En 36:=eo func36 (by kernel_rfl) rfl
theorem E37:En 37:=eo func37 (by kernel_rfl) rfl
theorem E38:En 38:=eo func38 (by kernel_rfl) rfl
theorem E39:En 39:=eo func39 (by kernel_rfl) rfl
theorem E40:En 40:=eo func40 (by kernel_rfl) rfl
theorem E41:En 41:=eo func41 (by kernel_rfl) rfl
theorem E42:En 42:=eo func42 (by kernel_rfl) rfl
theorem E44:En 44:=eo func44 (by kernel_rfl) rfl
theorem E45:En 45:=eo func45 (by kernel_rfl) rfl
theorem E46:En 46:=eo func46 (by kernel_rfl) rfl
theorem E47:En 47:=eo func47 (by kernel_rfl) rfl
theorem E48:En 48:=eo func48 (by kernel_rfl) rfl
theorem E49:En 49:=eo func49 (by kernel_rfl) rfl
theorem E50:En 50:=eo func50 (by kernel_rfl) rfl
theorem E51:En 51:=eo func51 (by kernel_rfl) rfl
theorem E53:En 53:=eo func53 (by kernel_rfl) rfl
theorem E54:En 54:=eo func54 (by kernel_rfl) rfl
theorem E55:En 55:=eo func55 (by kernel_rfl) rfl
theorem E57:En 57:=eo func57 (by kernel_rfl) rfl
theorem E59:En 59:=eo func59 (by kernel_rfl) rfl
theorem E60:En 60:=eo func60 (by kernel_rfl) rfl
theorem E61:En 61:=eo func61 (by kernel_rfl) rfl
theorem E62:En 62:=eo func62 (by kernel_rfl) rfl
theorem E63:En 63:=eo func63 (by kernel_rfl) rfl
theorem E64:En 64:=eo func64 (by kernel_rfl) rfl
theorem E65:En 65:=eo func65 (by kernel_rfl) rfl
theorem E66:En 66:=eo func66 (by kernel_rfl) rfl
theorem E67:En 67:=eo func67 (by kernel_rfl) rfl
theorem E69:En 69:=eo func69 (by kernel_rfl) rfl
theorem E70:En 70:=eo func70 (by kernel_rfl) rfl
theorem E71:En 71:=eo func71 (by kernel_rfl) rfl
theorem E72:En 72:=eo func72 (by kernel_rfl) rfl
theorem E73:En 73:=eo func73 (by kernel_rfl) rfl
theorem E74:En 74:=eo func74 (by kernel_rfl) rfl
theorem E76:En 76:=eo func76 (by kernel_rfl) rfl
theorem E77:En 77:=eo func77 (by kernel_rfl) rfl
theorem E78:En 78:=eo func78 (by kernel_rfl) rfl
theorem E79:En 79:=eo func79 (by kernel_rfl) rfl
theorem E80:En 80:=eo func80 (by kernel_rfl) rfl
theorem E81:En 81:=eo func81 (by kernel_rfl) rfl
theorem E82:En 82:=eo func82 (by kernel_rfl) rfl
theorem E83:En 83:=eo func83 (by kernel_rfl) rfl
theorem E84:En 84:=eo func84 (by kernel_rfl) rfl
theorem E85:En 85:=eo func85 (by kernel_rfl) rfl
theorem E86:En 86:=eo func86 (by kernel_rfl) rfl
theorem E87:En 87:=eo func87 (by kernel_rfl) rfl
theorem E88:En 88:=eo func88 (by kernel_rfl) rfl
theorem E89:En 89:=eo func89 (by kernel_rfl) rfl
theorem E90:En 90:=eo func90 (by kernel_rfl) rfl
theorem E91:En 91:=eo func91 (by kernel_rfl) rfl
theorem E92:En 92:=eo func92 (by kernel_rfl) rfl
theorem E93:En 93:=eo func93 (by kernel_rfl) rfl
theorem E94:En 94:=eo func94 (by kernel_rfl) rfl
theorem E95:En 95:=eo func95 (by kernel_rfl) rfl
theorem E96:En 96:=eo func96 (by kernel_rfl) rfl
theorem E97:En 97:=eo func97 (by kernel_rfl) rfl
theorem E98:En 98:=eo func98 (by kernel_rfl) rfl
theorem E99:En 99:=eo func99 (by kernel_rfl) rfl
theorem E100:En 100:=eo func100 (by kernel_rfl) rfl
theorem E101:En 101:=eo func101 (by kernel_rfl) rfl
theorem E102:En 102:=eo func102 (by kernel_rfl) rfl
theorem E103:En 103:=eo func103 (by kernel_rfl) rfl
theorem E104:En 104:=eo func104 (by kernel_rfl) rfl
theorem E106:En 106:=eo func106 (by kernel_rfl) rfl
theorem E107:En 107:=eo func107 (by kernel_rfl) rfl
theorem E108:En 108:=eo func108 (by kernel_rfl) rfl
theorem E109:En 109:=eo func109 (by kernel_rfl) rfl
theorem E110:En 110:=eo func110 (by kernel_rfl) rfl
theorem E111:En 111:=eo func111 (by kernel_rfl) rfl
theorem E112:En 112:=eo func112 (by kernel_rfl) rfl
theorem E113:En 113:=eo func113 (by kernel_rfl) rfl
theorem E114:En 114:=eo func114 (by kernel_rfl) rfl
theorem E115:En 115:=eo func115 (by kernel_rfl) rfl
theorem E116:En 116:=eo func116 (by kernel_rfl) rfl
theorem E117:En 117:=eo func117 (by kernel_rfl) rfl
theorem E118:En 118:=eo func118 (by kernel_rfl) rfl
theorem E119:En 119:=eo func119 (by kernel_rfl) rfl
theorem E120:En 120:=eo func120 (by kernel_rfl) rfl
theorem E121:En 121:=eo func121 (by kernel_rfl) rfl
theorem E122:En 122:=eo func122 (by kernel_rfl) rfl
theorem E123:En 123:=eo func123 (by kernel_rfl) rfl
theorem E124:En 124:=eo func124 (by kernel_rfl) rfl
theorem E125:En 125:=eo func125 (by kernel_rfl) rfl
theorem E126:En 126:=eo func126 (by kernel_rfl) rfl
theorem E127:En 127:=eo func127 (by kernel_rfl) rfl
theorem E128:En 128:=eo func128 (by kernel_rfl) rfl
theorem E129:En 129:=eo func129 (by kernel_rfl) rfl
theorem E130:En 130:=eo func130 (by kernel_rfl) rfl
theorem E131:En 131:=eo func131 (by kernel_rfl) rfl
theorem E132:En 132:=eo func132 (by kernel_rfl) rfl
theorem E133:En 133:=eo func133 (by kernel_rfl) rfl
theorem E134:En 134:=eo func134 (by kernel_rfl) rfl
theorem E135:En 135:=eo func135 (by kernel_rfl) rfl
theorem E136:En 136:=eo func136 (by kernel_rfl) rfl
theorem E137:En 137:=eo func137 (by kernel_rfl) rfl
theorem E138:En 138:=eo func138 (by kernel_rfl) rfl
theorem E139:En 139:=eo func139 (by kernel_rfl) rfl
theorem E140:En 140:=eo func140 (by kernel_rfl) rfl
theorem E141:En 141:=eo func141 (by kernel_rfl) rfl
theorem E142:En 142:=eo func142 (by kernel_rfl) rfl
theorem E143:En 143:=eo func143 (by kernel_rfl) rfl
theorem E144:En 144:=eo func144 (by kernel_rfl) rfl
theorem E145:En 145:=eo func145 (by kernel_rfl) rfl
theorem E146:En 146:=eo func146 (by kernel_rfl) rfl
theorem E147:En 147:=eo func147 (by kernel_rfl) rfl
theorem E148:En 148:=eo func148 (by kernel_rfl) rfl
theorem E149:En 149:=eo func149 (by kernel_rfl) rfl
theorem E150:En 150:=eo func150 (by kernel_rfl) rfl
theorem E151:En 151:=eo func151 (by kernel_rfl) rfl
theorem E152:En 152:=eo func152 (by kernel_rfl) rfl
theorem E153:En 153:=eo func153 (by kernel_rfl) rfl
theorem E154:En 154:=eo func154 (by kernel_rfl) rfl
theorem E155:En 155:=eo func155 (by kernel_rfl) rfl
theorem E156:En 156:=eo func156 (by kernel_rfl) rfl
theorem E157:En 157:=eo func157 (by kernel_rfl) rfl
theorem E158:En 158:=eo func158 (by kernel_rfl) rfl
theorem E159:En 159:=eo func159 (by kernel_rfl) rfl
theorem E161:En 161:=eo func161 (by kernel_rfl) rfl
theorem E162:En 162:=eo func162 (by kernel_rfl) rfl
theorem E163:En 163:=eo func163 (by kernel_rfl) rfl
theorem E164:En 164:=eo func164 (by kernel_rfl) rfl
theorem E165:En 165:=eo func165 (by kernel_rfl) rfl
theorem E166:En 166:=eo func166 (by kernel_rfl) rfl
theorem E167:En 167:=eo func167 (by kernel_rfl) rfl
theorem E168:En 168:=eo func168 (by kernel_rfl) rfl
theorem E169:En 169:=eo func169 (by kernel_rfl) rfl
theorem E172:En 172:=eo func172 (by kernel_rfl) rfl
theorem E173:En 173:=eo func173 (by kernel_rfl) rfl
theorem E174:En 174:=eo func174 (by kernel_rfl) rfl
theorem E175:En 175:=eo func175 (by kernel_rfl) rfl
theorem E176:En 176:=eo func176 (by kernel_rfl) rfl
theorem E177:En 177:=eo func177 (by kernel_rfl) rfl
theorem E178:En 178:=eo func178 (by kernel_rfl) rfl
theorem E179:En 179:=eo func179 (by kernel_rfl) rfl
theorem E180:En 180:=eo func180 (by kernel_rfl) rfl
theorem E181:En 181:=eo func181 (by kernel_rfl) rfl
theorem E182:En 182:=eo func182 (by kernel_rfl) rfl
theorem E183:En 183:=eo func183 (by kernel_rfl) rfl
theorem E184:En 184:=eo func184 (by kernel_rfl) rfl
theorem E185:En 185:=eo func185 (by kernel_rfl) rfl
theorem E186:En 186:=eo func186 (by kernel_rfl) rfl
theorem E187:En 187:=eo func187 (by kernel_rfl) rfl
theorem E189:En 189:=eo func189 (by kernel_rfl) rfl
theorem E192:En 192:=eo func192 (by kernel_rfl) rfl
theorem E193:En 193:=eo func193 (by kernel_rfl) rfl
theorem E194:En 194:=eo func194 (by kernel_rfl) rfl
theorem E195:En 195:=eo func195 (by kernel_rfl) rfl
theorem E197:En 197:=eo func197 (by kernel_rfl) rfl
theorem E200:En 200:=eo func200 (by kernel_rfl) rfl
theorem E207:En 207:=eo func207 (by kernel_rfl) rfl
theorem E208:En 208:=eo func208 (by kernel_rfl) rfl
theorem E209:En 209:=eo func209 (by kernel_rfl) rfl
theorem E210:En 210:=eo func210 (by kernel_rfl) rfl
theorem E211:En 211:=eo func211 (by kernel_rfl) rfl
theorem E215:En 215:=eo func215 (by kernel_rfl) rfl
theorem E219:En 219:=eo func219 (by kernel_rfl) rfl
theorem E220:En 220:=eo func220 (by kernel_rfl) rfl
theorem E230:En 230:=eo func230 (by kernel_rfl) rfl
theorem ag25:AggT prog 25 2:=⟨by kernel_rfl,by kernel_rfl⟩
theorem ag31:AggT prog 31 4:=⟨by kernel_rfl,by kernel_rfl⟩
theorem ag34:AggT prog 34 5:=⟨by kernel_rfl,by kernel_rfl⟩
theorem ag48:AggT prog 48 7:=⟨by kernel_rfl,by kernel_rfl⟩
theorem ag52:AggT prog 52 1:=⟨by kernel_rfl,by kernel_rfl⟩
theorem ag54:AggT prog 54 5:=⟨by kernel_rfl,by kernel_rfl⟩
theorem ag63:AggT prog 63 3:=⟨by kernel_rfl,by kernel_rfl⟩
theorem ag72:AggT prog 72 6:=⟨by kernel_rfl,by kernel_rfl⟩
theorem ag84:AggT prog 84 7:=⟨by kernel_rfl,by kernel_rfl⟩
theorem ag110:AggT prog 110 2:=⟨by kernel_rfl,by kernel_rfl⟩
theorem ag119:AggT prog 119 8:=⟨by kernel_rfl,by kernel_rfl⟩
theorem ag120:AggT prog 120 8:=⟨by kernel_rfl,by kernel_rfl⟩
theorem ag128:AggT prog 128 2:=⟨by kernel_rfl,by kernel_rfl⟩
theorem ag130:AggT prog 130 4:=⟨by kernel_rfl,by kernel_rfl⟩
theorem ag133:AggT prog 133 12:=⟨by kernel_rfl,by kernel_rfl⟩
theorem eg120:prog.eqGuardType prog.depth 120=false:=by kernel_rfl
theorem el4:ElT prog 4 (.bool false) 1 1:=by unfold ElT; kernel_rfl
theorem el9:ElT prog 9 (.string ByteArray.empty) 1 16:=by unfold ElT; kernel_rfl
theorem el31:ElT prog 31 (.agg ([.slice none 0 0,.slice none 0 0,.slice none 0 0,.int .i64 0]).toArray) 4 80:=by unfold ElT; kernel_rfl
theorem el48:ElT prog 48 (.agg ([.int .i64 0,.string ByteArray.empty,.int .i64 0,.int .i64 0,.int .i64 0,.slice none 0 0,.bool false]).toArray) 7 80:=by unfold ElT; kernel_rfl
theorem el63:ElT prog 63 (.agg ([.int .i64 0,.int .i64 0,.slice none 0 0]).toArray) 3 40:=by unfold ElT; kernel_rfl
theorem el110:ElT prog 110 (.agg ([.int .i64 0,.slice none 0 0]).toArray) 2 32:=by unfold ElT; kernel_rfl
theorem el133:ElT prog 133 (.agg (([.bool false,.slice none 0 0,.bool false,.slice none 0 0]:List Value)++(vecG (Value.int .i64) 8 (fun _=>0))).toArray) 12 128:=by unfold ElT; kernel_rfl
theorem el202:ElT prog 202 (.int .u32 0) 1 4:=by unfold ElT; kernel_rfl
theorem Y0.ZpJ:FaP 25 0 0:=faP underlying25 rfl rfl (fun _ _ _=>by kernel_rfl)
theorem Y0.Zhh:FaP 25 1 1:=faP underlying25 rfl rfl (fun _ _ _=>by kernel_rfl)
theorem Y0.ZpK:FaP 31 0 0:=faP underlying31 rfl rfl (fun _ _ _=>by kernel_rfl)
theorem Y0.ZpL:FaP 31 1 1:=faP underlying31 rfl rfl (fun _ _ _=>by kernel_rfl)
theorem Y0.ZpM:FaP 31 2 2:=faP underlying31 rfl rfl (fun _ _ _=>by kernel_rfl)
theorem Y0.ZpN:FaP 31 3 3:=faP underlying31 rfl rfl (fun _ _ _=>by kernel_rfl)
theorem Y0.ZpO:FaP 34 0 0:=faP underlying34 rfl rfl (fun _ _ _=>by kernel_rfl)
theorem Y0.ZpP:FaP 34 1 4:=faP underlying34 rfl rfl (fun _ _ _=>by kernel_rfl)
theorem Y0.ZpQ:FaP 48 0 0:=faP underlying48 rfl rfl (fun _ _ _=>by kernel_rfl)
theorem Y0.ZpR:FaP 48 1 1:=faP underlying48 rfl rfl (fun _ _ _=>by kernel_rfl)
theorem Y0.ZpS:FaP 48 2 2:=faP underlying48 rfl rfl (fun _ _ _=>by kernel_rfl)
theorem Y0.ZpT:FaP 48 3 3:=faP underlying48 rfl rfl (fun _ _ _=>by kernel_rfl)
theorem Y0.ZpU:FaP 48 4 4:=faP underlying48 rfl rfl (fun _ _ _=>by kernel_rfl)
theorem Y0.ZpV:FaP 48 5 5:=faP underlying48 rfl rfl (fun _ _ _=>by kernel_rfl)
theorem Y0.ZpW:FaP 48 6 6:=faP underlying48 rfl rfl (fun _ _ _=>by kernel_rfl)
theorem Y0.Zk5:FaP 52 0 0:=faP underlying52 rfl rfl (fun _ _ _=>by kernel_rfl)
theorem Y0.ZnF:FaP 54 0 0:=faP underlying54 rfl rfl (fun _ _ _=>by kernel_rfl)
theorem Y0.Zk6:FaP 54 1 1:=faP underlying54 rfl rfl (fun _ _ _=>by kernel_rfl)
theorem Y0.ZnG:FaP 54 2 2:=faP underlying54 rfl rfl (fun _ _ _=>by kernel_rfl)
theorem Y0.Zk7:FaP 54 3 3:=faP underlying54 rfl rfl (fun _ _ _=>by kernel_rfl)
theorem Y0.ZpX:FaP 54 4 4:=faP underlying54 rfl rfl (fun _ _ _=>by kernel_rfl)
theorem Y0.ZpY:FaP 63 0 0:=faP underlying63 rfl rfl (fun _ _ _=>by kernel_rfl)
theorem Y0.ZpZ:FaP 63 1 1:=faP underlying63 rfl rfl (fun _ _ _=>by kernel_rfl)
theorem Y0.Zp0:FaP 63 2 2:=faP underlying63 rfl rfl (fun _ _ _=>by kernel_rfl)
theorem Y0.Zp1:FaP 72 0 0:=faP underlying72 rfl rfl (fun _ _ _=>by kernel_rfl)
theorem Y0.Zk8:FaP 72 2 5:=faP underlying72 rfl rfl (fun _ _ _=>by kernel_rfl)
theorem Y0.Zp2:FaP 82 0 0:=faP underlying82 rfl rfl (fun _ _ _=>by kernel_rfl)
theorem Y0.ZnH:FaP 82 1 1:=faP underlying82 rfl rfl (fun _ _ _=>by kernel_rfl)
theorem Y0.Zp3:FaP 82 2 2:=faP underlying82 rfl rfl (fun _ _ _=>by kernel_rfl)
theorem Y0.Zpg:FaP 110 0 0:=faP underlying110 rfl rfl (fun _ _ _=>by kernel_rfl)
theorem Y0.Zph:FaP 110 1 1:=faP underlying110 rfl rfl (fun _ _ _=>by kernel_rfl)
theorem Y0.Zpi:FaP 128 0 0:=faP underlying128 rfl rfl (fun _ _ _=>by kernel_rfl)
theorem Y0.Zpj:FaP 128 1 1:=faP underlying128 rfl rfl (fun _ _ _=>by kernel_rfl)
theorem Y0.Zpk:FaP 130 0 0:=faP underlying130 rfl rfl (fun _ _ _=>by kernel_rfl)
theorem Y0.Zpl:FaP 130 1 2:=faP underlying130 rfl rfl (fun _ _ _=>by kernel_rfl)
theorem Y0.Zpm:FaP 133 0 0:=faP underlying133 rfl rfl (fun _ _ _=>by kernel_rfl)
theorem Y0.Zpn:FaP 133 1 4:=faP underlying133 rfl rfl (fun _ _ _=>by kernel_rfl)
def ky3:Ky prog 3 Int:=Ky.int underlying3
def ky9:Ky prog 9 ByteArray:=Ky.str underlying9
theorem laid120:laidOutB prog=true:=by kernel_rfl
def ky120:Ky prog 120 (Fin 8->Int):=Ky.arr underlying120 underlying3 (by kernel_rfl) (by kernel_rfl) (by kernel_rfl) laid120 (of_decide_eq_true (by kernel_rfl)) (by kernel_rfl)
theorem sc3:ScalT prog 3:=by unfold ScalT; kernel_rfl
theorem sc4:ScalT prog 4:=by unfold ScalT; kernel_rfl
theorem sc5:ScalT prog 5:=by unfold ScalT; kernel_rfl
theorem sc9:ScalT prog 9:=by unfold ScalT; kernel_rfl
theorem sc22:ScalT prog 22:=by unfold ScalT; kernel_rfl
theorem sc23:ScalT prog 23:=by unfold ScalT; kernel_rfl
theorem sc27:ScalT prog 27:=by unfold ScalT; kernel_rfl
theorem sc28:ScalT prog 28:=by unfold ScalT; kernel_rfl
theorem sc29:ScalT prog 29:=by unfold ScalT; kernel_rfl
theorem sc32:ScalT prog 32:=by unfold ScalT; kernel_rfl
theorem sc36:ScalT prog 36:=by unfold ScalT; kernel_rfl
theorem sc44:ScalT prog 44:=by unfold ScalT; kernel_rfl
theorem sc46:ScalT prog 46:=by unfold ScalT; kernel_rfl
theorem sc50:ScalT prog 50:=by unfold ScalT; kernel_rfl
theorem sc87:ScalT prog 87:=by unfold ScalT; kernel_rfl
theorem sc122:ScalT prog 122:=by unfold ScalT; kernel_rfl
theorem sc126:ScalT prog 126:=by unfold ScalT; kernel_rfl
theorem sc178:ScalT prog 178:=by unfold ScalT; kernel_rfl
theorem sc202:ScalT prog 202:=by unfold ScalT; kernel_rfl
theorem sz3:(prog.info? 3).map (·.size)=some 1:=by kernel_rfl
theorem sz4:(prog.info? 4).map (·.size)=some 1:=by kernel_rfl
theorem sz5:(prog.info? 5).map (·.size)=some 1:=by kernel_rfl
theorem sz9:(prog.info? 9).map (·.size)=some 1:=by kernel_rfl
theorem sz28:(prog.info? 28).map (·.size)=some 1:=by kernel_rfl
theorem sz29:(prog.info? 29).map (·.size)=some 1:=by kernel_rfl
theorem sz31:(prog.info? 31).map (·.size)=some 4:=by kernel_rfl
theorem sz32:(prog.info? 32).map (·.size)=some 1:=by kernel_rfl
theorem sz34:(prog.info? 34).map (·.size)=some 5:=by kernel_rfl
theorem sz36:(prog.info? 36).map (·.size)=some 1:=by kernel_rfl
theorem sz44:(prog.info? 44).map (·.size)=some 1:=by kernel_rfl
theorem sz46:(prog.info? 46).map (·.size)=some 1:=by kernel_rfl
theorem sz48:(prog.info? 48).map (·.size)=some 7:=by kernel_rfl
theorem sz54:(prog.info? 54).map (·.size)=some 5:=by kernel_rfl
theorem sz63:(prog.info? 63).map (·.size)=some 3:=by kernel_rfl
theorem sz72:(prog.info? 72).map (·.size)=some 6:=by kernel_rfl
theorem sz82:(prog.info? 82).map (·.size)=some 3:=by kernel_rfl
theorem sz84:(prog.info? 84).map (·.size)=some 7:=by kernel_rfl
theorem sz87:(prog.info? 87).map (·.size)=some 1:=by kernel_rfl
theorem sz110:(prog.info? 110).map (·.size)=some 2:=by kernel_rfl
theorem sz119:(prog.info? 119).map (·.size)=some 8:=by kernel_rfl
theorem sz120:(prog.info? 120).map (·.size)=some 8:=by kernel_rfl
theorem sz122:(prog.info? 122).map (·.size)=some 1:=by kernel_rfl
theorem sz123:(prog.info? 123).map (·.size)=some 5:=by kernel_rfl
theorem sz128:(prog.info? 128).map (·.size)=some 2:=by kernel_rfl
theorem sz130:(prog.info? 130).map (·.size)=some 4:=by kernel_rfl
theorem sz133:(prog.info? 133).map (·.size)=some 12:=by kernel_rfl
theorem sz178:(prog.info? 178).map (·.size)=some 1:=by kernel_rfl
theorem sz202:(prog.info? 202).map (·.size)=some 1:=by kernel_rfl
theorem sz216:(prog.info? 216).map (·.size)=some 8:=by kernel_rfl
theorem z3:(prog.info? 3).map (·.zero)=some (some (.int .i64 0)):=by kernel_rfl
theorem z4:(prog.info? 4).map (·.zero)=some (some (.bool false)):=by kernel_rfl
theorem z9:(prog.info? 9).map (·.zero)=some (some (.string ByteArray.empty)):=by kernel_rfl
theorem z31:(prog.info? 31).map (·.zero)=some (some (.agg ([.slice none 0 0,.slice none 0 0,.slice none 0 0,.int .i64 0]).toArray)):=by kernel_rfl
theorem z34:(prog.info? 34).map (·.zero)=some (some (.agg ([.slice none 0 0,.slice none 0 0,.slice none 0 0,.int .i64 0,.slice none 0 0]).toArray)):=by kernel_rfl
theorem z36:(prog.info? 36).map (·.zero)=some (some (.int .i64 0)):=by kernel_rfl
theorem z48:(prog.info? 48).map (·.zero)=some (some (.agg ([.int .i64 0,.string ByteArray.empty,.int .i64 0,.int .i64 0,.int .i64 0,.slice none 0 0,.bool false]).toArray)):=by kernel_rfl
theorem z63:(prog.info? 63).map (·.zero)=some (some (.agg ([.int .i64 0,.int .i64 0,.slice none 0 0]).toArray)):=by kernel_rfl
theorem z72:(prog.info? 72).map (·.zero)=some (some (.agg ([.slice none 0 0,.slice none 0 0,.slice none 0 0,.int .i64 0,.int .i64 0,.int .i64 0]).toArray)):=by kernel_rfl
theorem z84:(prog.info? 84).map (·.zero)=some (some (.agg ([.slice none 0 0,.slice none 0 0,.slice none 0 0,.int .i64 0,.slice none 0 0,.int .i64 0,.int .i64 0]).toArray)):=by kernel_rfl
theorem z87:(prog.info? 87).map (·.zero)=some (some (Value.nilFunc)):=by kernel_rfl
theorem z110:(prog.info? 110).map (·.zero)=some (some (.agg ([.int .i64 0,.slice none 0 0]).toArray)):=by kernel_rfl
theorem z119:(prog.info? 119).map (·.zero)=some (some (.agg (vecG (Value.int .i64) 8 (fun _=>0)).toArray)):=by kernel_rfl
theorem z120:(prog.info? 120).map (·.zero)=some (some (.agg (vecG (Value.int .i64) 8 (fun _=>0)).toArray)):=by kernel_rfl
theorem z128:(prog.info? 128).map (·.zero)=some (some (.agg ([.bool false,.slice none 0 0]).toArray)):=by kernel_rfl
theorem z130:(prog.info? 130).map (·.zero)=some (some (.agg ([.bool false,.slice none 0 0,.bool false,.slice none 0 0]).toArray)):=by kernel_rfl
theorem z133:(prog.info? 133).map (·.zero)=some (some (.agg (([.bool false,.slice none 0 0,.bool false,.slice none 0 0]:List Value)++(vecG (Value.int .i64) 8 (fun _=>0))).toArray)):=by kernel_rfl
theorem z216:(prog.info? 216).map (·.zero)=some (some (.agg (vecG Value.bool 8 (fun _=>false)).toArray)):=by kernel_rfl
theorem zv4(w:World):(zeroValue 4).run prog w = .ok (.bool false) w:=by kernel_rfl
theorem zv104(w:World):(zeroValue 104).run prog w = .ok .nilFunc w:=by kernel_rfl
end Go.Proofs.YtnjiloaolgjedaaGreat

namespace Go.EL
open Go.IntKind (i8 i16 i32 i64 u8 u16 u32 u64)
open Go Go.EL Go.RowKit Go.Proofs
structure ZE where
 t:(List (Fin 5->Int))
abbrev Zhz:Rp ZE:=Rp.via (Rp.sl (Rp.vec .i8 5)) (fun x=>x.t)
structure Zw where
 kind:Int
 a:Int
 b:Int
 n:Int
 p:ZE
abbrev ZaK:Rp Zw:=Rp.via (Rp.pair (Rp.int .u8) (Rp.pair (Rp.int .u8) (Rp.pair (Rp.int .u8) (Rp.pair (Rp.int .u8) Zhz)))) (fun x=>(x.kind,x.a,x.b,x.n,x.p))
theorem Zg8{G:Mem}{K:Nat->Value->Prop}{o:Nat}{x:Zw}(h:AtK ZaK G K o x):∃ zptp zptc,(∀ (j:Nat) (u:Value),([.int .u8 x.kind,.int .u8 x.a,.int .u8 x.b,.int .u8 x.n,.slice zptp x.p.t.length zptc]).toArray[j]? = some u->K (o+j) u)/\SlR (Rp.vec .i8 5) G (.slice zptp x.p.t.length zptc) x.p.t:=by
 obtain⟨c,h,hc⟩:=h
 obtain⟨c1,d1,e1,h1,k1⟩:=h
 subst e1
 replace h1:_=([.int .u8 _]:List Value):=h1
 subst h1
 obtain⟨c3,d3,e3,h3,k3⟩:=k1
 subst e3
 replace h3:_=([.int .u8 _]:List Value):=h3
 subst h3
 obtain⟨c5,d5,e5,h5,k5⟩:=k3
 subst e5
 replace h5:_=([.int .u8 _]:List Value):=h5
 subst h5
 obtain⟨c7,d7,e7,h7,k7⟩:=k5
 subst e7
 replace h7:_=([.int .u8 _]:List Value):=h7
 subst h7
 obtain⟨v9,e9,s9⟩:=k7
 subst e9
 obtain⟨p9,q9,f9⟩:=SlR.form s9
 subst f9
 exact⟨p9,q9,fun j u hu=>hc j u (by simpa using hu),s9⟩
structure ZaF where
 at':Int
 other:Int
 l:(List Zw)
abbrev Zbz:Rp ZaF:=Rp.via (Rp.pair (Rp.int .u8) (Rp.pair (Rp.int .u8) (Rp.sl ZaK))) (fun x=>(x.at',x.other,x.l))
structure ZF where
 s:(List Zw)
 v:(List ZaF)
abbrev ZhA:Rp ZF:=Rp.via (Rp.pair (Rp.sl ZaK) (Rp.sl Zbz)) (fun x=>(x.s,x.v))
theorem Zk2{G:Mem}{K:Nat->Value->Prop}{o:Nat}{x:ZF}(h:AtK ZhA G K o x):∃ zsp zsc zvp zvc,(∀ (j:Nat) (u:Value),([.slice zsp x.s.length zsc,.slice zvp x.v.length zvc]).toArray[j]? = some u->K (o+j) u)/\SlR ZaK G (.slice zsp x.s.length zsc) x.s/\SlR Zbz G (.slice zvp x.v.length zvc) x.v:=by
 obtain⟨c,h,hc⟩:=h
 obtain⟨c1,d1,e1,h1,k1⟩:=h
 subst e1
 obtain⟨v2,e2,s2⟩:=h1
 subst e2
 obtain⟨p2,q2,f2⟩:=SlR.form s2
 subst f2
 obtain⟨v3,e3,s3⟩:=k1
 subst e3
 obtain⟨p3,q3,f3⟩:=SlR.form s3
 subst f3
 exact⟨p2,q2,p3,q3,fun j u hu=>hc j u (by simpa using hu),s2,s3⟩
structure Zj where
 neg:Bool
 mag:(List Int)
abbrev Zjg:Rp Zj:=Rp.via (Rp.pair Rp.bool (Rp.sl (Rp.int .u32))) (fun x=>(x.neg,x.mag))
structure Zm where
 num:Zj
 den:Zj
abbrev Zee:Rp Zm:=Rp.via (Rp.pair Zjg Zjg) (fun x=>(x.num,x.den))
theorem ZmT{G:Mem}{K:Nat->Value->Prop}{o:Nat}{x:Zm}(h:AtK Zee G K o x):∃ znummagp znummagc zdenmagp zdenmagc,(∀ (j:Nat) (u:Value),([.bool x.num.neg,.slice znummagp x.num.mag.length znummagc,.bool x.den.neg,.slice zdenmagp x.den.mag.length zdenmagc]).toArray[j]? = some u->K (o+j) u)/\SlR (Rp.int .u32) G (.slice znummagp x.num.mag.length znummagc) x.num.mag/\SlR (Rp.int .u32) G (.slice zdenmagp x.den.mag.length zdenmagc) x.den.mag:=by
 obtain⟨c,h,hc⟩:=h
 obtain⟨c1,d1,e1,h1,k1⟩:=h
 subst e1
 obtain⟨c2,d2,e2,h2,k2⟩:=h1
 subst e2
 replace h2:_=([.bool _]:List Value):=h2
 subst h2
 obtain⟨v4,e4,s4⟩:=k2
 subst e4
 obtain⟨p4,q4,f4⟩:=SlR.form s4
 subst f4
 obtain⟨c5,d5,e5,h5,k5⟩:=k1
 subst e5
 replace h5:_=([.bool _]:List Value):=h5
 subst h5
 obtain⟨v7,e7,s7⟩:=k5
 subst e7
 obtain⟨p7,q7,f7⟩:=SlR.form s7
 subst f7
 exact⟨p4,q4,p7,q7,fun j u hu=>hc j u (by simpa using hu),s4,s7⟩
theorem ZmU{G:Mem}{cs:List Value}{x:Zm}(h:Zee.rep G cs x):∃ znummagp znummagc zdenmagp zdenmagc,cs=[.bool x.num.neg,.slice znummagp x.num.mag.length znummagc,.bool x.den.neg,.slice zdenmagp x.den.mag.length zdenmagc]/\SlR (Rp.int .u32) G (.slice znummagp x.num.mag.length znummagc) x.num.mag/\SlR (Rp.int .u32) G (.slice zdenmagp x.den.mag.length zdenmagc) x.den.mag:=by
 obtain⟨c1,d1,e1,h1,k1⟩:=h
 subst e1
 obtain⟨c2,d2,e2,h2,k2⟩:=h1
 subst e2
 replace h2:_=([.bool _]:List Value):=h2
 subst h2
 obtain⟨v4,e4,s4⟩:=k2
 subst e4
 obtain⟨p4,q4,f4⟩:=SlR.form s4
 subst f4
 obtain⟨c5,d5,e5,h5,k5⟩:=k1
 subst e5
 replace h5:_=([.bool _]:List Value):=h5
 subst h5
 obtain⟨v7,e7,s7⟩:=k5
 subst e7
 obtain⟨p7,q7,f7⟩:=SlR.form s7
 subst f7
 exact⟨p4,q4,p7,q7,rfl,s4,s7⟩
structure Ze where
 c:Zm
 m:(Fin 8->Int)
abbrev Zar:Rp Ze:=Rp.via (Rp.pair Zee (Rp.vec .i64 8)) (fun x=>(x.c,x.m))
theorem Zl1{G:Mem}{K:Nat->Value->Prop}{o:Nat}{x:Ze}(h:AtK Zar G K o x):∃ zcnummagp zcnummagc zcdenmagp zcdenmagc,(∀ (j:Nat) (u:Value),(([.bool x.c.num.neg,.slice zcnummagp x.c.num.mag.length zcnummagc,.bool x.c.den.neg,.slice zcdenmagp x.c.den.mag.length zcdenmagc]:List Value)++(vecG (Value.int .i64) 8 x.m)).toArray[j]? = some u->K (o+j) u)/\SlR (Rp.int .u32) G (.slice zcnummagp x.c.num.mag.length zcnummagc) x.c.num.mag/\SlR (Rp.int .u32) G (.slice zcdenmagp x.c.den.mag.length zcdenmagc) x.c.den.mag:=by
 obtain⟨c,h,hc⟩:=h
 obtain⟨c1,d1,e1,h1,k1⟩:=h
 subst e1
 obtain⟨c2,d2,e2,h2,k2⟩:=h1
 subst e2
 obtain⟨c3,d3,e3,h3,k3⟩:=h2
 subst e3
 replace h3:_=([.bool _]:List Value):=h3
 subst h3
 obtain⟨v5,e5,s5⟩:=k3
 subst e5
 obtain⟨p5,q5,f5⟩:=SlR.form s5
 subst f5
 obtain⟨c6,d6,e6,h6,k6⟩:=k2
 subst e6
 replace h6:_=([.bool _]:List Value):=h6
 subst h6
 obtain⟨v8,e8,s8⟩:=k6
 subst e8
 obtain⟨p8,q8,f8⟩:=SlR.form s8
 subst f8
 replace k1:_=(vecG (Value.int .i64) 8 _:List Value):=k1
 subst k1
 exact⟨p5,q5,p8,q8,fun j u hu=>hc j u (by simpa using hu),s5,s8⟩
theorem Zia{G:Mem}{cs:List Value}{x:Ze}(h:Zar.rep G cs x):∃ zcnummagp zcnummagc zcdenmagp zcdenmagc,cs=([.bool x.c.num.neg,.slice zcnummagp x.c.num.mag.length zcnummagc,.bool x.c.den.neg,.slice zcdenmagp x.c.den.mag.length zcdenmagc]:List Value)++(vecG (Value.int .i64) 8 x.m)/\SlR (Rp.int .u32) G (.slice zcnummagp x.c.num.mag.length zcnummagc) x.c.num.mag/\SlR (Rp.int .u32) G (.slice zcdenmagp x.c.den.mag.length zcdenmagc) x.c.den.mag:=by
 obtain⟨c1,d1,e1,h1,k1⟩:=h
 subst e1
 obtain⟨c2,d2,e2,h2,k2⟩:=h1
 subst e2
 obtain⟨c3,d3,e3,h3,k3⟩:=h2
 subst e3
 replace h3:_=([.bool _]:List Value):=h3
 subst h3
 obtain⟨v5,e5,s5⟩:=k3
 subst e5
 obtain⟨p5,q5,f5⟩:=SlR.form s5
 subst f5
 obtain⟨c6,d6,e6,h6,k6⟩:=k2
 subst e6
 replace h6:_=([.bool _]:List Value):=h6
 subst h6
 obtain⟨v8,e8,s8⟩:=k6
 subst e8
 obtain⟨p8,q8,f8⟩:=SlR.form s8
 subst f8
 replace k1:_=(vecG (Value.int .i64) 8 _:List Value):=k1
 subst k1
 exact⟨p5,q5,p8,q8,rfl,s5,s8⟩
structure Zb where
 id:Int
 p:(List Ze)
abbrev Zq:Rp Zb:=Rp.via (Rp.pair (Rp.int .i64) (Rp.sl Zar)) (fun x=>(x.id,x.p))
theorem Zi1{G:Mem}{K:Nat->Value->Prop}{o:Nat}{x:Zb}(h:AtK Zq G K o x):∃ zpp zpc,(∀ (j:Nat) (u:Value),([.int .i64 x.id,.slice zpp x.p.length zpc]).toArray[j]? = some u->K (o+j) u)/\SlR Zar G (.slice zpp x.p.length zpc) x.p:=by
 obtain⟨c,h,hc⟩:=h
 obtain⟨c1,d1,e1,h1,k1⟩:=h
 subst e1
 replace h1:_=([.int .i64 _]:List Value):=h1
 subst h1
 obtain⟨v3,e3,s3⟩:=k1
 subst e3
 obtain⟨p3,q3,f3⟩:=SlR.form s3
 subst f3
 exact⟨p3,q3,fun j u hu=>hc j u (by simpa using hu),s3⟩
structure Za where
 vars:(List ByteArray)
 eqs:(List Zb)
 neqs:(List Zb)
 next:Int
abbrev Zd1:Rp Za:=Rp.via (Rp.pair (Rp.sl Rp.str) (Rp.pair (Rp.sl Zq) (Rp.pair (Rp.sl Zq) (Rp.int .i64)))) (fun x=>(x.vars,x.eqs,x.neqs,x.next))
theorem Zkz{G:Mem}{K:Nat->Value->Prop}{o:Nat}{x:Za}(h:AtK Zd1 G K o x):∃ zvarsp zvarsc zeqsp zeqsc zneqsp zneqsc,(∀ (j:Nat) (u:Value),([.slice zvarsp x.vars.length zvarsc,.slice zeqsp x.eqs.length zeqsc,.slice zneqsp x.neqs.length zneqsc,.int .i64 x.next]).toArray[j]? = some u->K (o+j) u)/\SlR Rp.str G (.slice zvarsp x.vars.length zvarsc) x.vars/\SlR Zq G (.slice zeqsp x.eqs.length zeqsc) x.eqs/\SlR Zq G (.slice zneqsp x.neqs.length zneqsc) x.neqs:=by
 obtain⟨c,h,hc⟩:=h
 obtain⟨c1,d1,e1,h1,k1⟩:=h
 subst e1
 obtain⟨v2,e2,s2⟩:=h1
 subst e2
 obtain⟨p2,q2,f2⟩:=SlR.form s2
 subst f2
 obtain⟨c3,d3,e3,h3,k3⟩:=k1
 subst e3
 obtain⟨v4,e4,s4⟩:=h3
 subst e4
 obtain⟨p4,q4,f4⟩:=SlR.form s4
 subst f4
 obtain⟨c5,d5,e5,h5,k5⟩:=k3
 subst e5
 obtain⟨v6,e6,s6⟩:=h5
 subst e6
 obtain⟨p6,q6,f6⟩:=SlR.form s6
 subst f6
 replace k5:_=([.int .i64 _]:List Value):=k5
 subst k5
 exact⟨p2,q2,p4,q4,p6,q6,fun j u hu=>hc j u (by simpa using hu),s2,s4,s6⟩
structure Zc where
 kind:Int
 name:ByteArray
 at':Int
 to':Int
 id:Int
 p:(List Ze)
 neq:Bool
abbrev ZdE:Rp Zc:=Rp.via (Rp.pair (Rp.int .i64) (Rp.pair Rp.str (Rp.pair (Rp.int .i64) (Rp.pair (Rp.int .i64) (Rp.pair (Rp.int .i64) (Rp.pair (Rp.sl Zar) Rp.bool)))))) (fun x=>(x.kind,x.name,x.at',x.to',x.id,x.p,x.neq))
theorem Zl0{G:Mem}{K:Nat->Value->Prop}{o:Nat}{x:Zc}(h:AtK ZdE G K o x):∃ zpp zpc,(∀ (j:Nat) (u:Value),([.int .i64 x.kind,.string x.name,.int .i64 x.at',.int .i64 x.to',.int .i64 x.id,.slice zpp x.p.length zpc,.bool x.neq]).toArray[j]? = some u->K (o+j) u)/\SlR Zar G (.slice zpp x.p.length zpc) x.p:=by
 obtain⟨c,h,hc⟩:=h
 obtain⟨c1,d1,e1,h1,k1⟩:=h
 subst e1
 replace h1:_=([.int .i64 _]:List Value):=h1
 subst h1
 obtain⟨c3,d3,e3,h3,k3⟩:=k1
 subst e3
 replace h3:_=([.string _]:List Value):=h3
 subst h3
 obtain⟨c5,d5,e5,h5,k5⟩:=k3
 subst e5
 replace h5:_=([.int .i64 _]:List Value):=h5
 subst h5
 obtain⟨c7,d7,e7,h7,k7⟩:=k5
 subst e7
 replace h7:_=([.int .i64 _]:List Value):=h7
 subst h7
 obtain⟨c9,d9,e9,h9,k9⟩:=k7
 subst e9
 replace h9:_=([.int .i64 _]:List Value):=h9
 subst h9
 obtain⟨c11,d11,e11,h11,k11⟩:=k9
 subst e11
 obtain⟨v12,e12,s12⟩:=h11
 subst e12
 obtain⟨p12,q12,f12⟩:=SlR.form s12
 subst f12
 replace k11:_=([.bool _]:List Value):=k11
 subst k11
 exact⟨p12,q12,fun j u hu=>hc j u (by simpa using hu),s12⟩
structure Zf where
 parent:Int
 other:Int
 e:(List Zc)
abbrev Zac:Rp Zf:=Rp.via (Rp.pair (Rp.int .i64) (Rp.pair (Rp.int .i64) (Rp.sl ZdE))) (fun x=>(x.parent,x.other,x.e))
theorem ZjH{G:Mem}{K:Nat->Value->Prop}{o:Nat}{x:Zf}(h:AtK Zac G K o x):∃ zep zec,(∀ (j:Nat) (u:Value),([.int .i64 x.parent,.int .i64 x.other,.slice zep x.e.length zec]).toArray[j]? = some u->K (o+j) u)/\SlR ZdE G (.slice zep x.e.length zec) x.e:=by
 obtain⟨c,h,hc⟩:=h
 obtain⟨c1,d1,e1,h1,k1⟩:=h
 subst e1
 replace h1:_=([.int .i64 _]:List Value):=h1
 subst h1
 obtain⟨c3,d3,e3,h3,k3⟩:=k1
 subst e3
 replace h3:_=([.int .i64 _]:List Value):=h3
 subst h3
 obtain⟨v5,e5,s5⟩:=k3
 subst e5
 obtain⟨p5,q5,f5⟩:=SlR.form s5
 subst f5
 exact⟨p5,q5,fun j u hu=>hc j u (by simpa using hu),s5⟩
structure Zg where
 root:Za
 v:(List Zf)
abbrev Zbd:Rp Zg:=Rp.via (Rp.pair Zd1 (Rp.sl Zac)) (fun x=>(x.root,x.v))
structure Zx where
 s:Za
 n:Int
 e:Int
structure ZR where
 h:Zg
 n:Int
 e:Int
end Go.EL

namespace Go.EL
open Go.IntKind (i8 i16 i32 i64 u8 u16 u32 u64)
open Go Go.RowKit
abbrev M:=Fin 8->Int
def cmpFrom(a b:M):Nat->Nat->Int
 | 0,_=>0
 | n+1,k=>if h:k<8 then (if a ⟨k,h⟩<b ⟨k,h⟩ then -1 else if b ⟨k,h⟩<a ⟨k,h⟩ then 1 else cmpFrom a b n (k+1)) else 0
def cmpM(a b:M):Int:=cmpFrom a b 8 0
theorem Zd9(a b:M):∀ (k:Nat),k<=8->(∀ i:Fin 8,i.val<k->a i=b i)->cmpM a b=cmpFrom a b (8-k) k
 | 0,_,_=>rfl
 | k+1,hk,h=>by
  rw[Zd9 a b k (by omega) (fun i hi=>h i (by omega))]
  have hl:k<8:=by omega
  have e:=h ⟨k,hl⟩ (by simp)
  rw[show 8-k=(8-(k+1))+1 by omega]
  simp[cmpFrom,hl,e]
theorem Zmg(a b:M){k:Nat}(hk:k<8)(h:∀ i:Fin 8,i.val<k->a i=b i)(hlt:a ⟨k,hk⟩<b ⟨k,hk⟩):cmpM a b = -1:=by
 rw[Zd9 a b k (by omega) h,show 8-k=(7-k)+1 by omega]
 simp[cmpFrom,hk,hlt]
theorem Zmf(a b:M){k:Nat}(hk:k<8)(h:∀ i:Fin 8,i.val<k->a i=b i)(hlt:b ⟨k,hk⟩<a ⟨k,hk⟩):cmpM a b=1:=by
 rw[Zd9 a b k (by omega) h,show 8-k=(7-k)+1 by omega]
 have:¬ a ⟨k,hk⟩<b ⟨k,hk⟩:=by omega
 simp[cmpFrom,hk,hlt,this]
theorem Zme(a b:M)(h:∀ i,a i=b i):cmpM a b=0:=by
 rw[Zd9 a b 8 (by omega) (fun i _=>h i)]
 rfl
theorem Zh9(a b:M):∀ n k,cmpFrom b a n k = - cmpFrom a b n k
 | 0,_=>by simp[cmpFrom]
 | n+1,k=>by
  simp only[cmpFrom]
  split
  .rename_i h
   rw[Zh9 a b n (k+1)]
   split <;> split <;> first|omega|(split <;> omega)
  rfl
theorem ZdW(a b c:M):∀ n k,cmpFrom a b n k<=0->cmpFrom b c n k<=0->cmpFrom a c n k<=0/\((cmpFrom a b n k<0\/cmpFrom b c n k<0)->cmpFrom a c n k<0)
 | 0,_=>by simp[cmpFrom]
 | n+1,k=>by
  have ih:=ZdW a b c n (k+1)
  simp only[cmpFrom]
  by_cases h:k<8
  .simp only[dif_pos h]
   by_cases h1:a ⟨k,h⟩<b ⟨k,h⟩
   .by_cases h2:b ⟨k,h⟩<c ⟨k,h⟩
    .simp[h1,h2,show a ⟨k,h⟩<c ⟨k,h⟩ by omega]
    by_cases h3:c ⟨k,h⟩<b ⟨k,h⟩
    .simp[h2,h3]
    simp[show a ⟨k,h⟩<c ⟨k,h⟩ by omega]
   by_cases h1':b ⟨k,h⟩<a ⟨k,h⟩
   .simp[h1,h1']
   by_cases h2:b ⟨k,h⟩<c ⟨k,h⟩
   .simp[show a ⟨k,h⟩<c ⟨k,h⟩ by omega]
   by_cases h3:c ⟨k,h⟩<b ⟨k,h⟩
   .simp[h2,h3]
   simp only[h1,h1',h2,h3,if_false,show ¬ a ⟨k,h⟩<c ⟨k,h⟩ by omega,show ¬ c ⟨k,h⟩<a ⟨k,h⟩ by omega]
   exact ih
  simp[h]
theorem Zg9(a b:M):∀ n k,n+k=8->cmpFrom a b n k=0->∀ i:Fin 8,k<=i.val->a i=b i
 | 0,k,e,_,i,hi=>by have:=i.isLt; omega
 | n+1,k,e,hz,i,hi=>by
  have hk:k<8:=by omega
  simp only[cmpFrom,dif_pos hk] at hz
  by_cases h1:a ⟨k,hk⟩<b ⟨k,hk⟩
  .simp[h1] at hz
  by_cases h2:b ⟨k,hk⟩<a ⟨k,hk⟩
  .simp[h1,h2] at hz
  simp only[h1,h2,if_false] at hz
  by_cases hik:i.val=k
  .have:i=⟨k,hk⟩:=Fin.ext hik
   subst this; omega
  exact Zg9 a b n (k+1) (by omega) hz i (by omega)
theorem ZbH(a b:M):cmpM b a = - cmpM a b:=Zh9 a b 8 0
theorem ZkA{a b c:M}(h1:cmpM a b<=0)(h2:cmpM b c<=0):cmpM a c<=0:=(ZdW a b c 8 0 h1 h2).1
theorem ZgI{a b c:M}(h1:cmpM a b<=0)(h2:cmpM b c<=0)(h:cmpM a b<0\/cmpM b c<0):cmpM a c<0:=(ZdW a b c 8 0 h1 h2).2 h
theorem Zha(a:M):cmpM a a=0:=Zme a a fun _=>rfl
theorem Ze2{a b:M}(h:cmpM a b=0):a=b:=funext fun i=>Zg9 a b 8 0 rfl h i (Nat.zero_le _)
theorem swoR:Go.Sort.SWO (Go.Proofs.ltOf fun a b=>cmpM b a) where
 irrefl x:=by simp[Go.Proofs.ltOf,Zha]
 trans x y z h1 h2:=by
  simp only[Go.Proofs.ltOf,decide_eq_true_eq] at *
  exact ZgI (a:=z) (b:=y) (c:=x) (by omega) (by omega) (.inl h2)
 ntrans x y z h1 h2:=by
  simp only[Go.Proofs.ltOf,decide_eq_false_iff_not] at *
  have a:=ZbH x y
  have b:=ZbH y z
  have c:=ZbH x z
  have:=ZkA (a:=x) (b:=y) (c:=z) (by omega) (by omega)
  omega
end Go.EL

namespace Go.EL
open Go.IntKind (i8 i16 i32 i64 u8 u16 u32 u64)
open Go
def upF(p q:Nat->Int):Nat->Nat->Nat->Bool
 | 0,b,a=>decide (a=b)
 | k+1,b,a=>decide (a=b) || (decide (0<=p b) && upF p q k (p b).toNat a) || (decide (0<=q b) && upF p q k (q b).toNat a)
def upB(p q:Nat->Int)(b a:Nat):Bool:=upF p q b b a
def DownOk(p q:Nat->Int)(n:Nat):Prop:=∀ b,b<n->p b<(b:Int)/\q b<(b:Int)
def Dir(p q:Nat->Int)(x a:Nat):Prop:=p x=(a:Int)\/q x=(a:Int)
section
variable {p q:Nat->Int}{n:Nat}
theorem ZiQ(h:DownOk p q n):∀ (k k' b:Nat) (a:Nat),b<n->b<=k->b<=k'->upF p q k b a=upF p q k' b a:=by
 intro k
 induction k with
 | zero=>
  intro k' b a hb h1 h2
  have hb0:b=0:=by omega
  subst hb0
  cases k' with
  | zero=>rfl
  | succ k'=>
   have:=h 0 hb
   simp only[upF]
   rw[decide_eq_false (show ¬ 0<=p 0 by omega),decide_eq_false (show ¬ 0<=q 0 by omega)]
   simp
 | succ k ih=>
  intro k' b a hb h1 h2
  have hd:=h b hb
  cases k' with
  | zero=>
   have hb0:b=0:=by omega
   subst hb0
   simp only[upF]
   rw[decide_eq_false (show ¬ 0<=p 0 by omega),decide_eq_false (show ¬ 0<=q 0 by omega)]
   simp
  | succ k'=>
   simp only[upF]
   congr 1
   .congr 1
    by_cases h0:0<=p b
    .rw[ih k' (p b).toNat a (by omega) (by omega) (by omega)]
    rw[decide_eq_false h0]; rfl
   by_cases h0:0<=q b
   .rw[ih k' (q b).toNat a (by omega) (by omega) (by omega)]
   rw[decide_eq_false h0]; rfl
theorem Za6(h:DownOk p q n){b:Nat}(hb:b<n)(a:Nat):upB p q b a=true↔a=b\/(0<=p b/\upB p q (p b).toNat a=true)\/(0<=q b/\upB p q (q b).toNat a=true):=by
 have hd:=h b hb
 have e:upB p q b a=upF p q (b+1) b a:=ZiQ h b (b+1) b a hb (Nat.le_refl _) (Nat.le_succ _)
 rw[e]
 simp only[upF,Bool.or_eq_true,Bool.and_eq_true,decide_eq_true_eq,or_assoc]
 refine or_congr Iff.rfl (or_congr ?_ ?_)
 .by_cases h0:0<=p b
  .rw[ZiQ h b (p b).toNat (p b).toNat a (by omega) (by omega) (Nat.le_refl _)]; rfl
  exact⟨fun x=>absurd x.1 h0,fun x=>absurd x.1 h0⟩
 by_cases h0:0<=q b
 .rw[ZiQ h b (q b).toNat (q b).toNat a (by omega) (by omega) (Nat.le_refl _)]; rfl
 exact⟨fun x=>absurd x.1 h0,fun x=>absurd x.1 h0⟩
theorem Zcp(b:Nat):upB p q b b=true:=by
 unfold upB
 cases b <;> simp[upF]
theorem ZhD(h:DownOk p q n):∀ {b a:Nat},b<n->upB p q b a=true->a<=b:=by
 intro b
 induction b using Nat.strongRecOn with
 | _ b ih=>
  intro a hb hu
  have hd:=h b hb
  rcases (Za6 h hb a).1 hu with h1|⟨h0,h1⟩|⟨h0,h1⟩
  .omega
  .have:=ih (p b).toNat (by omega) (by omega) h1; omega
  have:=ih (q b).toNat (by omega) (by omega) h1; omega
theorem Zod(h:DownOk p q n):∀ {c b a:Nat},c<n->upB p q c b=true->upB p q b a=true->upB p q c a=true:=by
 intro c
 induction c using Nat.strongRecOn with
 | _ c ih=>
  intro b a hc hu hv
  have hd:=h c hc
  rcases (Za6 h hc b).1 hu with h1|⟨h0,h1⟩|⟨h0,h1⟩
  .subst h1; exact hv
  .exact (Za6 h hc a).2 (.inr (.inl ⟨h0,ih (p c).toNat (by omega) (by omega) h1 hv⟩))
  exact (Za6 h hc a).2 (.inr (.inr ⟨h0,ih (q c).toNat (by omega) (by omega) h1 hv⟩))
theorem ZoU(h:DownOk p q n){x a:Nat}(hx:x<n)(hd:Dir p q x a):upB p q x a=true:=by
 rcases hd with hd|hd
 .exact (Za6 h hx a).2 (.inr (.inl ⟨by omega,by rw[hd,Int.toNat_natCast]; exact Zcp a⟩))
 exact (Za6 h hx a).2 (.inr (.inr ⟨by omega,by rw[hd,Int.toNat_natCast]; exact Zcp a⟩))
theorem ZpE(h:DownOk p q n){b x a:Nat}(hb:b<n)(hu:upB p q b x=true)(hd:Dir p q x a):upB p q b a=true:=
 Zod h hb hu (ZoU h (Nat.lt_of_le_of_lt (ZhD h hb hu) hb) hd)
theorem ZoV(h:DownOk p q n):∀ {b a:Nat},b<n->upB p q b a=true->a=b\/∃ x,upB p q b x=true/\Dir p q x a:=by
 intro b
 induction b using Nat.strongRecOn with
 | _ b ih=>
  intro a hb hu
  have hd:=h b hb
  rcases (Za6 h hb a).1 hu with h1|⟨h0,h1⟩|⟨h0,h1⟩
  .exact .inl h1
  .rcases ih (p b).toNat (by omega) (by omega) h1 with h2|⟨x,h2,h3⟩
   .exact .inr ⟨b,Zcp b,.inl (by omega)⟩
   exact .inr ⟨x,(Za6 h hb x).2 (.inr (.inl ⟨h0,h2⟩)),h3⟩
  rcases ih (q b).toNat (by omega) (by omega) h1 with h2|⟨x,h2,h3⟩
  .exact .inr ⟨b,Zcp b,.inr (by omega)⟩
  exact .inr ⟨x,(Za6 h hb x).2 (.inr (.inr ⟨h0,h2⟩)),h3⟩
theorem ZpI(h:DownOk p q n){x a:Nat}(hx:x<n)(hd:Dir p q x a):a<x:=by
 have:=h x hx
 rcases hd with hd|hd <;> omega
def markL(p q:Nat->Int)(A:List Bool)(k:Nat):List Bool:=
 let A1:=if 0<=p k then A.set (p k).toNat true else A
 if 0<=q k then A1.set (q k).toNat true else A1
def ancL(p q:Nat->Int):Nat->List Bool->List Int
 | 0,_=>[]
 | k+1,A=>if A.getD k false=true then (k:Int)::ancL p q k (markL p q A k) else ancL p q k A
def ancU(p q:Nat->Int)(b:Nat):List Int:=ancL p q (b+1) ((List.replicate (b+1) false).set b true)
theorem Zkd(A:List Bool)(k:Nat):(markL p q A k).length=A.length:=by
 unfold markL
 dsimp only
 split <;> split <;> simp
theorem ZeQ{A:List Bool}{i j:Nat}(hj:j<A.length):(A.set i true).getD j false=true↔i=j\/A.getD j false=true:=by
 simp only[List.getD_eq_getElem?_getD,List.getElem?_set]
 by_cases h:i=j
 .subst h; simp[hj]
 simp[h]
theorem ZnP{A:List Bool}{k j:Nat}(hj:j<A.length):(markL p q A k).getD j false=true↔A.getD j false=true\/Dir p q k j:=by
 unfold markL Dir
 dsimp only
 by_cases h1:0<=p k <;> by_cases h2:0<=q k
 .rw[if_pos h1,if_pos h2,ZeQ (by rw[List.length_set]; exact hj),ZeQ hj]
  constructor
  .rintro (h|h|h)
   .exact .inr (.inr (by omega))
   .exact .inr (.inl (by omega))
   exact .inl h
  rintro (h|h|h)
  .exact .inr (.inr h)
  .exact .inr (.inl (by omega))
  exact .inl (by omega)
 .rw[if_pos h1,if_neg h2,ZeQ hj]
  constructor
  .rintro (h|h)
   .exact .inr (.inl (by omega))
   exact .inl h
  rintro (h|h|h)
  .exact .inr h
  .exact .inl (by omega)
  omega
 .rw[if_neg h1,if_pos h2,ZeQ hj]
  constructor
  .rintro (h|h)
   .exact .inr (.inr (by omega))
   exact .inl h
  rintro (h|h|h)
  .exact .inr h
  .omega
  exact .inl (by omega)
 rw[if_neg h1,if_neg h2]
 constructor
 .exact .inl
 rintro (h|h|h)
 .exact h
 .omega
 omega
def Marked(p q:Nat->Int)(b v:Nat)(A:List Bool):Prop:=∀ j,j<A.length->(A.getD j false=true↔j=b\/∃ x,v<=x/\upB p q b x=true/\Dir p q x j)
theorem ZnQ(h:DownOk p q n){b k:Nat}(hb:b<n){A:List Bool}(hm:Marked p q b (k+1) A)(hk:k<A.length):A.getD k false=true↔upB p q b k=true:=by
 rw[hm k hk]
 constructor
 .rintro (rfl|⟨x,_,h2,h3⟩)
  .exact Zcp k
  exact ZpE h hb h2 h3
 intro hu
 rcases ZoV h hb hu with h1|⟨x,h2,h3⟩
 .exact .inl h1
 refine .inr ⟨x,?_,h2,h3⟩
 have:=ZpI h (Nat.lt_of_le_of_lt (ZhD h hb h2) hb) h3
 omega
theorem Zm1(h:DownOk p q n){b k:Nat}(hb:b<n){A:List Bool}(hm:Marked p q b (k+1) A)(hu:upB p q b k=true):Marked p q b k (markL p q A k):=fun j hj=>by
 rw[Zkd] at hj
 rw[ZnP hj,hm j hj]
 constructor
 .rintro ((h1|⟨x,h1,h2,h3⟩)|h1)
  .exact .inl h1
  .exact .inr ⟨x,by omega,h2,h3⟩
  exact .inr ⟨k,Nat.le_refl _,hu,h1⟩
 rintro (h1|⟨x,h1,h2,h3⟩)
 .exact .inl (.inl h1)
 by_cases hx:x=k
 .subst hx; exact .inr h3
 exact .inl (.inr ⟨x,by omega,h2,h3⟩)
theorem ZnR(h:DownOk p q n){b k:Nat}(hb:b<n){A:List Bool}(hm:Marked p q b (k+1) A)(hu:¬ upB p q b k=true):Marked p q b k A:=fun j hj=>by
 rw[hm j hj]
 constructor
 .rintro (h1|⟨x,h1,h2,h3⟩)
  .exact .inl h1
  exact .inr ⟨x,by omega,h2,h3⟩
 rintro (h1|⟨x,h1,h2,h3⟩)
 .exact .inl h1
 by_cases hx:x=k
 .subst hx; exact absurd h2 hu
 exact .inr ⟨x,by omega,h2,h3⟩
theorem Zlg(h:DownOk p q n){b m:Nat}(hb:b<n)(hm:b<m):Marked p q b (b+1) ((List.replicate m false).set b true):=fun j hj=>by
 rw[List.length_set,List.length_replicate] at hj
 rw[ZeQ (by rw[List.length_replicate]; exact hj)]
 have e:(List.replicate m false).getD j false=false:=by simp[List.getD_eq_getElem?_getD,List.getElem?_replicate,hj]
 rw[e]
 constructor
 .rintro (h1|h1)
  .exact .inl h1.symm
  cases h1
 rintro (h1|⟨x,h1,h2,_⟩)
 .exact .inl h1.symm
 have:=ZhD h hb h2; omega
theorem Zpb(h:DownOk p q n){b:Nat}(hb:b<n):∀ (k:Nat) (A:List Bool),k<=A.length->Marked p q b k A->ancL p q k A=(((List.range k).filter fun j=>upB p q b j).reverse.map fun j:Nat=>(j:Int)):=by
 intro k
 induction k with
 | zero=>intro A _ _; rfl
 | succ k ih=>
  intro A hl hm
  have hk:=ZnQ h hb hm (by omega)
  rw[List.range_succ,List.filter_append,List.reverse_append,List.map_append]
  unfold ancL
  by_cases hu:upB p q b k=true
  .rw[if_pos (hk.2 hu),ih _ (by rw[Zkd]; omega) (Zm1 h hb hm hu)]
   simp[hu]
  rw[if_neg (fun x=>hu (hk.1 x)),ih A (by omega) (ZnR h hb hm hu)]
  simp[hu]
theorem ZjG(h:DownOk p q n){b:Nat}(hb:b<n):ancU p q b=(((List.range (b+1)).filter fun j=>upB p q b j).reverse.map fun j:Nat=>(j:Int)):=
 Zpb h hb (b+1) _ (by simp) (Zlg h hb (Nat.lt_succ_self b))
theorem Zck(h:DownOk p q n){b:Nat}(hb:b<n){a:Nat}:(a:Int) ∈ ancU p q b↔upB p q b a=true:=by
 rw[ZjG h hb]
 simp only[List.mem_map,List.mem_reverse,List.mem_filter,List.mem_range]
 constructor
 .rintro⟨j,⟨_,h2⟩,h3⟩
  have:j=a:=by omega
  subst this; exact h2
 intro hu
 exact⟨a,⟨by have:=ZhD h hb hu; omega,hu⟩,rfl⟩
def IsBase(p q:Nat->Int)(a b v:Nat):Prop:=upB p q a v=true/\upB p q b v=true/\∀ c,upB p q a c=true->upB p q b c=true->c<=v
theorem Zm9(k:Nat):(List.range k).Pairwise fun a b=>a<b:=by
 rw[List.range_eq_range']
 exact List.pairwise_lt_range'
theorem Znw(h:DownOk p q n){a b:Nat}(ha:a<n)(hb:b<n){v:Int}(hv:((ancU p q a).find? fun c=>decide (c ∈ ancU p q b))=some v):∃ u:Nat,v=(u:Int)/\IsBase p q a b u:=by
 obtain⟨h1,us,vs,h2,h3⟩:=List.find?_eq_some_iff_append.1 hv
 have hm:v ∈ ancU p q a:=by rw[h2]; simp
 have hm':=hm
 rw[ZjG h ha] at hm'
 obtain⟨u,hu,rfl⟩:=List.mem_map.1 hm'
 have hua:=(Zck h ha).1 hm
 have hub:=(Zck h hb).1 (of_decide_eq_true h1)
 refine⟨u,rfl,hua,hub,fun c hc1 hc2=>?_⟩
 have hca:=(Zck h ha).2 hc1
 have hcb:=(Zck h hb).2 hc2
 have hpw:(ancU p q a).Pairwise fun x y=>y<x:=by
  rw[ZjG h ha,List.pairwise_map,List.pairwise_reverse]
  refine ((Zm9 (a+1)).sublist List.filter_sublist).imp ?_
  intro x y hxy; omega
 rw[h2] at hca hpw
 have hp2:=(List.pairwise_append.1 hpw).2.1
 rcases List.mem_append.1 hca with hx|hx
 .have:=h3 _ hx
  rw[decide_eq_true hcb] at this
  cases this
 rcases List.mem_cons.1 hx with hx|hx
 .omega
 have:=(List.pairwise_cons.1 hp2).1 _ hx
 omega
end
end Go.EL

namespace Go.EL
open Go.IntKind (i8 i16 i32 i64 u8 u16 u32 u64)
open Go Go.EL Go.RowKit Go.Proofs
def Z1:ByteArray:=⟨#[65,98,99]⟩
def Z6:ByteArray:=⟨#[117,95,49]⟩
def Zai:ByteArray:=⟨#[119]⟩
def Zas:ByteArray:=⟨#[122]⟩
def ZJ:ByteArray:=⟨#[121]⟩
def Zr:ByteArray:=⟨#[120]⟩
def ZeR:ByteArray:=⟨#[0,1,2,2,3,3,3,3,4,4,4,4,4,4,4,4,5,5,5,5,5,5,5,5,5,5,5,5,5,5,5,5,6,6,6,6,6,6,6,6,6,6,6,6,6,6,6,6,6,6,6,6,6,6,6,6,6,6,6,6,6,6,6,6,7,7,7,7,7,7,7,7,7,7,7,7,7,7,7,7,7,7,7,7,7,7,7,7,7,7,7,7,7,7,7,7,7,7,7,7,7,7,7,7,7,7,7,7,7,7,7,7,7,7,7,7,7,7,7,7,7,7,7,7,7,7,7,7,8,8,8,8,8,8,8,8,8,8,8,8,8,8,8,8,8,8,8,8,8,8,8,8,8,8,8,8,8,8,8,8,8,8,8,8,8,8,8,8,8,8,8,8,8,8,8,8,8,8,8,8,8,8,8,8,8,8,8,8,8,8,8,8,8,8,8,8,8,8,8,8,8,8,8,8,8,8,8,8,8,8,8,8,8,8,8,8,8,8,8,8,8,8,8,8,8,8,8,8,8,8,8,8,8,8,8,8,8,8,8,8,8,8,8,8,8,8,8,8,8,8,8,8,8,8,8,8]⟩
def Zbi(a:(List ByteArray))(b:Int)(c:(List ByteArray)):Cq (List ByteArray):=
 Cq.chk ((0<=b/\b<=(a.length:Int))/\c.length=1/\(a.length:Int)<1000000) (Cq.ret (a.take b.toNat++c++a.drop b.toNat))
def Zbh(a:(List ByteArray))(b c:Int):Cq (List ByteArray):=
 Cq.chk (0<=b/\b<=c/\c<=(a.length:Int)/\(a.length:Int)<1000000) (Cq.ret (a.take b.toNat++a.drop c.toNat))
def Zae(k:Int):Cq (List Zb):=Cq.chk (0<=k/\k<=1000000) (Cq.ret [])
def ZU(a:(List Zb))(b:Int)(c:(List Zb)):Cq (List Zb):=
 Cq.chk ((0<=b/\b<=(a.length:Int))/\c.length=1/\(a.length:Int)<1000000) (Cq.ret (a.take b.toNat++c++a.drop b.toNat))
def Zu:List (Int×Nat):=[(1,85),(2,86),(3,87),(4,88),(5,89),(6,90),(7,91),(8,92)]
def ZcW(b:(Fin 8->Int))(c:(Fin 8->Int))(a:Int):Cq Int:=
 Cq.chk (0<=a/\a<8) (Cq.chk (0<=a/\a<8) (if (getF b a)<(getF c a) then (Cq.ret (-1)) else (Cq.ret 1)))
def Zjb(b:(Fin 8->Int))(c:(Fin 8->Int)):Int->Cq Int:=
 Cq.loop fun d=>match d with|a=>Cq.chk (0<=a/\a<8) (Cq.chk (0<=a/\a<8) (if (getF b a)=(getF c a) then (Cq.ret (.inl (i64.wrap (a+1)))) else (Cq.ret (.inr a))))
def ZbL(a:(Fin 8->Int))(b:(Fin 8->Int)):Cq Int:=
 if a=b then (Cq.ret 0) else (Cq.next (Zjb a b 0) fun c=>match c with|d=>ZcW a b d)
def ZcZ(b:Ze)(c:Ze):Cq Int:=
 Cq.bind (ZbL c.m b.m) fun a=>Cq.ret a
def ZX(l:List Ze)(a b c:Int):Cq (List Ze):=
 Cq.chk (a=0/\b=(l.length:Int)/\(0<=c/\c<1000000)/\l.length<=1000000) (Cq.any (fun d=>d.Perm l/\d.Pairwise (fun x y=>¬ cmpM x.m y.m<0)) Cq.ret)
def ZaG(a:Int):Cq Bool:=
 Cq.ret (decide (a<4))
def Zo(a:(Unit->Cq Bool))(b:Int):Cq Int:=
 Cq.bind (a ()) fun c=>if c=true then (Cq.ret 0) else (Cq.ret b)
def ZG(b:Int)(a:(Unit->Cq Bool)):Cq (Unit->Cq Int):=
 Cq.ret (fun _=>Zo a b)
def Zan(a:Zc)(b:Int):Cq Bool:=
 if 0<=a.at' then (Cq.ret (decide (a.at'<=b))) else (Cq.ret false)
def Zds(a:Zj):Cq Bool:=
 if a.neg=true then (Cq.ret false) else (if (a.mag.length:Int)=1 then (Cq.at' a.mag 0 fun b=>Cq.ret (decide (b=1))) else (Cq.ret false))
def ZcU(b:(List Int))(a:Int):Cq (List Int):=
 Cq.chk (0<=(0:Int)/\(0:Int)<=a/\a<=(b.length:Int)) (Cq.ret ((b.take a.toNat).drop (0:Int).toNat))
def Zi6(b:(List Int)):Int->Cq Int:=
 Cq.loop fun c=>match c with|a=>if 0<a then (Cq.at' b (i64.wrap (a-1)) fun d=>if d=0 then (Cq.ret (.inl (i64.wrap (a-1)))) else (Cq.ret (.inr a))) else (Cq.ret (.inr a))
def ZbK(a:(List Int)):Cq (List Int):=
 Cq.next (Zi6 a (a.length:Int)) fun b=>match b with|c=>ZcU a c
def Zd0(a:(List Int)):Cq (List Int):=
 Cq.chk (([]++a).length<=small) (Cq.ret ([]++a))
def ZfX(b:Bool)(c:(List Int)):Cq Zj:=
 Cq.bind (ZbK c) fun a=>if (a.length:Int)=0 then Cq.fail else (Cq.ret (Zj.mk b a))
def Zdm(b:(List Int)):Cq Zj:=
 Cq.bind (ZfX false b) fun a=>Cq.ret a
def ZjK:((List Int)×(List Int)×Zj)->Cq (Zj⊕((List Int)×Zj)):=
 Cq.loop fun c=>match c with|(d,a,b)=>if 0<(a.length:Int) then Cq.fail else (Cq.ret (.inr (.inr (d,b))))
def Zif(f:Zj)(g:Zj):Cq Zj:=
 Cq.bind (ZbK f.mag) fun a=>Cq.bind (Zd0 a) fun b=>Cq.bind (ZbK g.mag) fun c=>Cq.bind (Zd0 c) fun d=>Cq.next (ZjK (b,d,(Zj.mk false []))) fun h=>match h with | .inl e=>Cq.ret e | .inr (i,j)=>Zdm i
def ZdZ(a:Zj):Cq Bool:=
 if (a.mag.length:Int)=0 then Cq.fail else (Cq.at' a.mag (i64.wrap ((a.mag.length:Int)-1)) fun b=>Cq.ret (decide (¬ b=0)))
def ZeG(a:Zj):Cq Int:=
 if (a.mag.length:Int)=0 then Cq.fail else (if a.neg=true then (Cq.ret (-1)) else (Cq.ret 1))
def Zd2(a:Zm):Cq Bool:=
 Cq.bind (Zds a.den) fun b=>match b with|false=>(Cq.bind (Zif a.num a.den) fun c=>Cq.bind (Zds c) fun d=>Cq.ret d)|true=>(Cq.ret true)
def ZbX(a:Zm):Cq Bool:=
 Cq.bind (ZdZ a.num) fun b=>match b with|false=>(Cq.ret false)|true=>(Cq.bind (ZdZ a.den) fun c=>match c with|false=>(Cq.ret false)|true=>(Cq.bind (ZeG a.den) fun d=>if d<=0 then Cq.fail else (Zd2 a)))
def Zby(b:Zm):Cq Int:=
 Cq.bind (ZeG b.num) fun a=>Cq.ret a
def Zb1:Cq Bool:=
 Cq.ret true
def ZhV(b:(Fin 8->Int)):Int->Cq (Bool⊕Unit):=
 Cq.loop fun c=>match c with|a=>if a<8 then (Cq.chk (0<=a/\a<8) (if (getF b a)<0 then (Cq.ret (.inr (.inl false))) else (if 65535<(getF b a) then Cq.fail else (Cq.ret (.inl (i64.wrap (a+1))))))) else (Cq.ret (.inr (.inr ())))
def Zdo(b:(Fin 8->Int)):Cq Bool:=
 Cq.next (ZhV b 0) fun c=>match c with | .inl a=>Cq.ret a | .inr ()=>Zb1
def ZbF:Cq Bool:=
 Cq.ret true
def ZaN(c:(List Ze))(a:Int)(d:Ze):Cq (Int⊕(Bool⊕Unit)):=
 if 0<a then (Cq.at' c (i64.wrap (a-1)) fun e=>Cq.bind (ZbL e.m d.m) fun b=>if b<=0 then Cq.fail else (Cq.ret (.inl (i64.wrap (a+1))))) else (Cq.ret (.inl (i64.wrap (a+1))))
def ZgM(d:(List Ze)):Int->Cq (Bool⊕Unit):=
 Cq.loop fun h=>match h with|a=>if a<(d.length:Int) then (Cq.at' d a fun b=>Cq.bind (ZbX b.c) fun e=>match e with|false=>(Cq.ret (.inr (.inl false)))|true=>(Cq.bind (Zby b.c) fun f=>if f=0 then (Cq.ret (.inr (.inl false))) else (Cq.bind (Zdo b.m) fun g=>if (!g)=true then Cq.fail else (ZaN d a b)))) else (Cq.ret (.inr (.inr ())))
def Zbp(b:(List Ze)):Cq Bool:=
 Cq.next (ZgM b 0) fun c=>match c with | .inl a=>Cq.ret a | .inr ()=>ZbF
def ZbE(a:Int):Cq Int:=
 Cq.ret a
def ZgL(c:(Fin 8->Int)):(Int×Int)->Cq Int:=
 Cq.loop fun d=>match d with|(b,a)=>if a<8 then (Cq.chk (0<=a/\a<8) (if 0<(getF c a) then (Cq.chk (0<=a) (Cq.ret (.inl (u8.wrap (BitVec.ofInt u8.bits b ||| BitVec.ofInt u8.bits (u8.wrap (1*2 ^ (min (a).toNat u8.bits)))).toNat,i64.wrap (a+1))))) else (Cq.ret (.inl (b,i64.wrap (a+1)))))) else (Cq.ret (.inr b))
def Zcl(a:(Fin 8->Int)):Cq Int:=
 Cq.next (ZgL a (0,0)) fun b=>match b with|c=>ZbE c
def ZbO(a:Int):Cq Int:=
 Cq.ret a
def Zhx(b:(List Ze)):(Int×Int)->Cq Int:=
 Cq.loop fun e=>match e with|(c,a)=>if a<(b.length:Int) then (Cq.at' b a fun f=>Cq.bind (Zcl f.m) fun d=>Cq.ret (.inl (u8.wrap (BitVec.ofInt u8.bits c ||| BitVec.ofInt u8.bits d).toNat,i64.wrap (a+1)))) else (Cq.ret (.inr c))
def ZaX(a:(List Ze)):Cq Int:=
 Cq.next (Zhx a (0,0)) fun b=>match b with|c=>ZbO c
def ZbM(a:Int):Cq Int:=
 Cq.ret a
def Zhr(c:(Fin 8->Int)):(Int×Int)->Cq Int:=
 Cq.loop fun d=>match d with|(b,a)=>if a<8 then (Cq.chk (0<=a/\a<8) (Cq.ret (.inl (i64.wrap (b+(getF c a)),i64.wrap (a+1))))) else (Cq.ret (.inr b))
def ZcX(a:(Fin 8->Int)):Cq Int:=
 Cq.next (Zhr a (0,0)) fun b=>match b with|c=>ZbM c
def Zbo(a:Int):Cq Int:=
 Cq.ret a
def Zgt(d:(List Ze)):(Int×Int)->Cq Int:=
 Cq.loop fun e=>match e with|(c,a)=>if a<(d.length:Int) then (Cq.at' d a fun f=>Cq.bind (ZcX f.m) fun b=>Cq.ret (.inl (if c<b then b else c,i64.wrap (a+1)))) else (Cq.ret (.inr c))
def Za8(a:(List Ze)):Cq Int:=
 Cq.next (Zgt a ((-1),0)) fun b=>match b with|c=>Zbo c
def ZfK(a:(List Ze))(b:Int):Cq Bool:=
 Cq.bind (Zbp a) fun c=>match c with|false=>(Cq.ret false)|true=>(Cq.bind (ZaX a) fun d=>Cq.chk (0<=b) (if (Int.fdiv (i64.wrap d) (2 ^ (min (b).toNat i64.bits)))=0 then (Cq.bind (Za8 a) fun e=>Cq.ret (decide (e<=12))) else (Cq.ret false)))
def Zcc(a:Int):Cq Bool:=
 if 48<=a then (if a<=57 then (Cq.ret true) else (Cq.ret (decide (a=95)))) else (Cq.ret (decide (a=95)))
def ZaL:Cq Bool:=
 Cq.ret true
def ZQ(c:ByteArray)(a:Nat)(b:Bool):Cq (Nat⊕(Bool⊕Unit)):=
 if b=true then (Cq.ret (.inl (a+(Utf8.decode c a).2))) else (if (a:Int)=0 then (Cq.ret (.inr (.inl false))) else (Cq.bind (Zcc ((Utf8.decode c a).1:Int)) fun d=>if (!d)=true then (Cq.ret (.inr (.inl false))) else (Cq.ret (.inl (a+(Utf8.decode c a).2)))))
def ZiO(b:ByteArray):Nat->Cq (Bool⊕Unit):=
 Cq.loop fun c=>match c with|a=>if a<b.size then (if 65<=((Utf8.decode b a).1:Int) then (if ((Utf8.decode b a).1:Int)<=90 then (ZQ b a true) else (if 97<=((Utf8.decode b a).1:Int) then (ZQ b a (decide (((Utf8.decode b a).1:Int)<=122))) else (ZQ b a false))) else (if 97<=((Utf8.decode b a).1:Int) then (ZQ b a (decide (((Utf8.decode b a).1:Int)<=122))) else (ZQ b a false))) else (Cq.ret (.inr (.inr ())))
def ZeS(b:ByteArray):Cq Bool:=
 Cq.next (ZiO b 0) fun c=>match c with | .inl a=>Cq.ret a | .inr ()=>ZaL
def Zcb(a:ByteArray):Cq Bool:=
 if (a.size:Int)<1 then (Cq.ret false) else (if 12<(a.size:Int) then (Cq.ret false) else (ZeS a))
def Zc2:Cq Bool:=
 Cq.ret true
def Zc3(a:Int)(b:(List (Int×Bool))):Cq ((Int×(List (Int×Bool)))⊕(Bool⊕Unit)):=
 Cq.ret (.inl (i64.wrap (a+1),b))
def ZaY(d:Za)(a:Int)(c:(List (Int×Bool)))(b:Zb):Cq ((Int×(List (Int×Bool)))⊕(Bool⊕((List (Int×Bool))))):=
 Cq.chk (((Lit.int i64 b.id).wf=true)/\(mput c b.id true).length<=small) (Cq.bind (ZfK b.p (d.vars.length:Int)) fun e=>if (!e)=true then (Cq.ret (.inr (.inl false))) else (Cq.ret (.inl (i64.wrap (a+1),(mput c b.id true)))))
def Zc1(b:Za)(e:(List Zb)):(Int×(List (Int×Bool)))->Cq (Bool⊕((List (Int×Bool)))):=
 Cq.loop fun f=>match f with|(a,d)=>if a<(e.length:Int) then (Cq.at' e a fun c=>if c.id<1 then (Cq.ret (.inr (.inl false))) else (if b.next<=c.id then (Cq.ret (.inr (.inl false))) else (Cq.chk ((Lit.int i64 c.id).wf=true) (if ((mget d c.id).getD false)=true then (Cq.ret (.inr (.inl false))) else (if 0<a then (Cq.at' e (i64.wrap (a-1)) fun g=>if c.id<=g.id then (Cq.ret (.inr (.inl false))) else (ZaY b a d c)) else (ZaY b a d c)))))) else (Cq.ret (.inr (.inr d)))
def Zjn(a:Za):(Int×(List (Int×Bool)))->Cq (Bool⊕Unit):=
 Cq.loop fun g=>match g with|(b,c)=>if b<([a.eqs,a.neqs].length:Int) then (Cq.at' [a.eqs,a.neqs] b fun d=>if 12<(d.length:Int) then (Cq.ret (.inr (.inl false))) else (Cq.next (Zc1 a d (0,c)) fun h=>match h with | .inl e=>Cq.ret (.inr (.inl e)) | .inr f=>Zc3 b f)) else (Cq.ret (.inr (.inr ())))
def ZaZ(a:Za):Cq Bool:=
 Cq.next (Zjn a (0,[])) fun c=>match c with | .inl b=>Cq.ret b | .inr ()=>Zc2
def Zjo(c:Za):(Int×(List (ByteArray×Bool)))->Cq (Bool⊕Unit):=
 Cq.loop fun f=>match f with|(a,d)=>if a<(c.vars.length:Int) then (Cq.at' c.vars a fun b=>Cq.bind (Zcb b) fun e=>match e with|false=>(Cq.ret (.inr (.inl false)))|true=>(Cq.chk (b.size<=1000000) (if ((mget d b).getD false)=true then (Cq.ret (.inr (.inl false))) else (Cq.chk ((b.size<=1000000)/\(mput d b true).length<=small) (Cq.ret (.inl (i64.wrap (a+1),(mput d b true)))))))) else (Cq.ret (.inr (.inr ())))
def Zfd(a:Za):Cq Bool:=
 Cq.next (Zjo a (0,[])) fun c=>match c with | .inl b=>Cq.ret b | .inr ()=>ZaZ a
def Z7(a:Za):Cq Bool:=
 if 4<(a.vars.length:Int) then (Cq.ret false) else (if a.next<1 then (Cq.ret false) else (if 1000000<a.next then (Cq.ret false) else (Zfd a)))
def ZdA(a:ByteArray):Cq Bool:=
 Cq.bind (Z7 (Za.mk [a] [] [] 1)) fun b=>Cq.ret b
def Zal:Cq Int:=
 Cq.ret (-1)
def Zc8(b:(List ByteArray))(c:ByteArray):Int->Cq (Int⊕Unit):=
 Cq.loop fun d=>match d with|a=>if a<(b.length:Int) then (Cq.at' b a fun e=>if c=e then (Cq.ret (.inr (.inl a))) else (Cq.ret (.inl (i64.wrap (a+1))))) else (Cq.ret (.inr (.inr ())))
def Z8(b:(List ByteArray))(c:ByteArray):Cq Int:=
 Cq.next (Zc8 b c 0) fun d=>match d with | .inl a=>Cq.ret a | .inr ()=>Zal
def Zak(b:(List ByteArray))(c:ByteArray):Cq Bool:=
 Cq.bind (Z8 b c) fun a=>Cq.ret (decide (0<=a))
def ZaH(a:Zc)(b:Za):Cq Bool:=
 Cq.bind (ZdA a.name) fun c=>match c with|false=>(Cq.ret false)|true=>(Cq.bind (Zak b.vars a.name) fun d=>Cq.ret (!d))
def ZdX:Cq Int:=
 Cq.ret 0
def ZkD(c:(List (Unit->Cq Int))):Int->Cq (Int⊕Unit):=
 Cq.loop fun d=>match d with|a=>if a<(c.length:Int) then (Cq.at' c a fun e=>Cq.bind (e ()) fun b=>if ¬ b=0 then (Cq.ret (.inr (.inl b))) else (Cq.ret (.inl (i64.wrap (a+1))))) else (Cq.ret (.inr (.inr ())))
def ZA(b:(List (Unit->Cq Int))):Cq Int:=
 Cq.next (ZkD b 0) fun c=>match c with | .inl a=>Cq.ret a | .inr ()=>ZdX
def Zci(a:(Fin 8->Int)):Cq (Fin 8->Int):=
 Cq.ret a
def Ziz:(Int×(Fin 8->Int))->Cq (Fin 8->Int):=
 Cq.loop fun c=>match c with|(a,b)=>if a<8 then (Cq.chk (0<=a/\a<8) (Cq.ret (.inl (i64.wrap (a+1),setF b a.toNat a)))) else (Cq.ret (.inr b))
def Zbx:Cq (Fin 8->Int):=
 Cq.next (Ziz (0,(fun _=>0))) fun b=>match b with|a=>Zci a
def ZdL(a:Int)(b:Int):Cq Int:=
 Cq.chk (0<=(u8.wrap a:Int)/\(u8.wrap a)<(ZeR.size:Int)) (Cq.ret (i64.wrap (b+(i64.wrap (byteAt ZeR (u8.wrap a))))))
def ZdM(a:Int)(b:Int):Cq Int:=
 if 256<=a then Cq.fail else (ZdL a b)
def ZdN(a:Int)(b:Int):Cq Int:=
 if 65536<=a then Cq.fail else (ZdM a b)
def Zfa(a:Int):Cq Int:=
 if 4294967296<=a then Cq.fail else (ZdN a 0)
def Zb9(b:Int):Cq Int:=
 Cq.bind (Zfa b) fun a=>Cq.ret a
def ZC(a:(List Ze)):Cq (List Ze):=
 Cq.bind (Zb9 (u64.wrap (a.length:Int))) fun b=>Cq.bind (ZX a 0 (a.length:Int) b) fun c=>Cq.ret c
def Zbq(a:(List Ze)):Cq (List Ze):=
 Cq.bind (ZC a) fun b=>Cq.ret b
def Zgu:((List Ze)×List ((Fin 8->Int)×Zm))->Cq (List Ze):=
 Cq.loop fun d=>match d with|(a,R1)=>Cq.pick R1 (Cq.ret (.inr a)) fun b R2=>Cq.bind (Zby b.2) fun c=>if ¬ c=0 then (Cq.chk ((a++[(Ze.mk b.2 b.1)]).length<=small) (Cq.ret (.inl ((a++[(Ze.mk b.2 b.1)]),R2)))) else (Cq.ret (.inl (a,R2)))
def Zb2(a:(List ((Fin 8->Int)×Zm))):Cq (List Ze):=
 Cq.chk (0<=(a.length:Int)/\(a.length:Int)<=1000000) (Cq.next (Zgu (([]:List Ze),a)) fun c=>match c with|b=>Zbq b)
def Zbb(a:(List ((Fin 8->Int)×Zm))):Cq ((List Ze)×Int):=
 Cq.bind (Zb2 a) fun b=>Cq.ret (b,0)
def Zbc(b:Int)(d:(List ((Fin 8->Int)×Zm)))(e:Ze)(a:(Fin 8->Int)):Cq ((Int×(List ((Fin 8->Int)×Zm)))⊕(((List ((Fin 8->Int)×Zm))))):=
 Cq.chk ((∀ i,(Lit.int i64 (a i)).wf=true)/\(mput d a e.c).length<=small) (Cq.ret (.inl (i64.wrap (b+1),(mput d a e.c))))
def ZcB(b:(Fin 8->Int))(d:Ze):(Int×(Fin 8->Int))->Cq (Fin 8->Int):=
 Cq.loop fun e=>match e with|(a,c)=>if a<8 then (Cq.chk (0<=a/\a<8) (Cq.chk (0<=a/\a<8) (Cq.chk (0<=getF b a/\(getF b a)<8) (Cq.ret (.inl (i64.wrap (a+1),setF c ((getF b a).toNat) (getF d.m a))))))) else (Cq.ret (.inr c))
def ZfY(d:(List Ze))(b:(Fin 8->Int)):(Int×(List ((Fin 8->Int)×Zm)))->Cq (((List ((Fin 8->Int)×Zm)))):=
 Cq.loop fun g=>match g with|(a,c)=>if a<(d.length:Int) then (Cq.at' d a fun e=>Cq.next (ZcB b e (0,(fun _=>0))) fun h=>match h with|f=>Zbc a c e f) else (Cq.ret (.inr c))
def Zaw(c:(List Ze))(a:(Fin 8->Int)):Cq ((List Ze)×Int):=
 Cq.next (ZfY c a (0,[])) fun d=>match d with|b=>Zbb b
def ZfZ(b:(Fin 8->Int)):(Int×(Fin 8->Bool))->Cq (((List Ze)×Int)⊕Unit):=
 Cq.loop fun d=>match d with|(a,c)=>if a<8 then (Cq.chk (0<=a/\a<8) (if (getF b a)<0 then (Cq.ret (.inr (.inl ([],1)))) else (if 8<=(getF b a) then (Cq.ret (.inr (.inl ([],1)))) else (Cq.chk (0<=getF b a/\(getF b a)<8) (if (getF c (getF b a))=true then Cq.fail else (Cq.chk (0<=getF b a/\(getF b a)<8) (Cq.ret (.inl (i64.wrap (a+1),setF c ((getF b a).toNat) true))))))))) else (Cq.ret (.inr (.inr ())))
def ZbN(c:(List Ze))(a:(Fin 8->Int)):Cq ((List Ze)×Int):=
 Cq.next (ZfZ a (0,(fun _=>false))) fun d=>match d with | .inl b=>Cq.ret b | .inr ()=>Zaw c a
def Ze5(b:Zb)(a:(Fin 8->Int)):Cq Zb:=
 Cq.bind (ZbN b.p a) fun c=>Cq.ret (Zb.mk b.id c.1)
def ZN(a:(List Zb)):Cq (List Zb):=
 Cq.ret a
def Za7(d:(List Zb))(c:(Fin 8->Int)):((List Zb)×Int)->Cq (List Zb):=
 Cq.loop fun f=>match f with|(b,a)=>if a<(d.length:Int) then (Cq.at' d a fun g=>Cq.bind (Ze5 g c) fun e=>Cq.at' b a fun h=>Cq.ret (.inl ((b.set a.toNat e),i64.wrap (a+1)))) else (Cq.ret (.inr b))
def ZH(a:(List Zb))(b:(Fin 8->Int)):Cq (List Zb):=
 Cq.chk (0<=(a.length:Int)/\(a.length:Int)<=1000000) (Cq.next (Za7 a b ((List.replicate (a.length:Int).toNat (Zb.mk 0 [])),0)) fun d=>match d with|c=>ZN c)
def ZbJ(b:Za)(a:(Fin 8->Int)):Cq Za:=
 Cq.bind (ZH b.eqs a) fun c=>Cq.bind (ZH b.neqs a) fun d=>Cq.ret (Za.mk b.vars c d b.next)
def ZK(a:(List ByteArray)):Cq (List ByteArray):=
 Cq.nilCase a (Cq.ret []) (Cq.chk (([]++a).length<=small) (Cq.ret ([]++a)))
def Zdl(c:Za)(b:Zc)(d:(Fin 8->Int)):Cq (Za×Int):=
 Cq.chk (0<=(c.vars.length:Int)/\(c.vars.length:Int)<8) (Cq.bind (ZbJ c (setF d ((c.vars.length:Int).toNat) b.at')) fun a=>Cq.bind (ZK a.vars) fun e=>Cq.bind (Zbi e b.at' [b.name]) fun f=>Cq.ret ((Za.mk f a.eqs a.neqs a.next),0))
def ZfU(c:Za):(Int×(Fin 8->Int))->Cq (Fin 8->Int):=
 Cq.loop fun d=>match d with|(a,b)=>if a<(c.vars.length:Int) then (Cq.chk (0<=a/\a<8) (Cq.ret (.inl (i64.wrap (a+1),setF b a.toNat (i64.wrap (a+1)))))) else (Cq.ret (.inr b))
def ZfA(b:Za)(a:Zc):Cq (Za×Int):=
 Cq.bind (ZG 2 (fun _=>ZaG (b.vars.length:Int))) fun d=>Cq.bind (ZG 330 (fun _=>Zan a (b.vars.length:Int))) fun e=>Cq.bind (ZG 331 (fun _=>ZaH a b)) fun f=>Cq.bind (ZA [d,e,f]) fun c=>if ¬ c=0 then (Cq.ret ((Za.mk [] [] [] 0),c)) else (Cq.bind (Zbx) fun g=>Cq.next (ZfU b (a.at',g)) fun i=>match i with|h=>Zdl b a h)
def ZP(a:(List Zb)):Cq (List Zb):=
 Cq.ret a
def Zbe(b:(List (List Zb))):((List Zb)×Int)->Cq (List Zb):=
 Cq.loop fun e=>match e with|(a,c)=>if c<(b.length:Int) then (Cq.at' b c fun d=>Cq.chk ((a++d).length<=small) (Cq.ret (.inl ((a++d),i64.wrap (c+1))))) else (Cq.ret (.inr a))
def ZD(b:(List (List Zb)))(c:Int):Cq (List Zb):=
 Cq.bind (Zae c) fun d=>Cq.next (Zbe b (d,0)) fun e=>match e with|a=>ZP a
def Zbf(a:(List (List Zb))):(Int×Int)->Cq Int:=
 Cq.loop fun e=>match e with|(b,c)=>if c<(a.length:Int) then (Cq.at' a c fun d=>if (i64.wrap (b+(d.length:Int)))<0 then Cq.fail else (Cq.ret (.inl (i64.wrap (b+(d.length:Int)),i64.wrap (c+1))))) else (Cq.ret (.inr b))
def ZT(a:(List (List Zb))):Cq (List Zb):=
 Cq.next (Zbf a (0,0)) fun c=>match c with|b=>ZD a b
def Zbl:Cq Bool:=
 Cq.ret true
def Zgm(b:Zc)(c:(List Zb)):Int->Cq (Bool⊕Unit):=
 Cq.loop fun e=>match e with|a=>if a<(c.length:Int) then (Cq.at' c a fun f=>Cq.bind (ZaX f.p) fun d=>Cq.chk (0<=b.at') (if ¬ (u8.wrap (BitVec.ofInt u8.bits d &&& BitVec.ofInt u8.bits (u8.wrap (1*2 ^ (min (b.at').toNat u8.bits)))).toNat)=0 then (Cq.ret (.inr (.inl false))) else (Cq.ret (.inl (i64.wrap (a+1)))))) else (Cq.ret (.inr (.inr ())))
def Zay(a:Za)(b:Zc):Cq Bool:=
 Cq.bind (ZT [a.eqs,a.neqs]) fun c=>Cq.next (Zgm b c 0) fun e=>match e with | .inl d=>Cq.ret d | .inr ()=>Zbl
def ZY(a:Int)(b:Za):Cq Bool:=
 if 0<=a then (Cq.ret (decide (a<(b.vars.length:Int)))) else (Cq.ret false)
def ZcP(a:Za)(b:Int):Cq (Unit->Cq Bool):=
 Cq.ret (fun _=>ZY b a)
def ZcO(f:Za)(b:Zc)(c:(Fin 8->Int)):Cq (Za×Int):=
 Cq.bind (ZbJ f c) fun a=>Cq.bind (ZK a.vars) fun d=>Cq.bind (Zbh d b.at' (i64.wrap (b.at'+1))) fun e=>Cq.ret ((Za.mk e a.eqs a.neqs a.next),0)
def Ze3(c:Za):(Int×(Fin 8->Int))->Cq (Fin 8->Int):=
 Cq.loop fun d=>match d with|(a,b)=>if a<(c.vars.length:Int) then (Cq.chk (0<=a/\a<8) (Cq.ret (.inl (i64.wrap (a+1),setF b a.toNat (i64.wrap (a-1)))))) else (Cq.ret (.inr b))
def ZeB(b:Za)(a:Zc):Cq (Za×Int):=
 Cq.bind (ZcP b a.at') fun d=>Cq.bind (ZG 330 d) fun e=>Cq.bind (ZG 333 (fun _=>Zay b a)) fun f=>Cq.bind (ZA [e,f]) fun c=>if ¬ c=0 then (Cq.ret ((Za.mk [] [] [] 0),c)) else (Cq.bind (Zbx) fun g=>Cq.chk (0<=a.at'/\a.at'<8) (Cq.next (Ze3 b (i64.wrap (a.at'+1),setF g a.at'.toNat (i64.wrap ((b.vars.length:Int)-1)))) fun i=>match i with|h=>ZcO b a h))
def ZaI(c:Za)(a:Zc):Cq Bool:=
 Cq.bind (Z8 c.vars a.name) fun b=>Cq.bind (ZdA a.name) fun d=>match d with|false=>(Cq.ret false)|true=>(if b<0 then (Cq.ret true) else (Cq.ret (decide (b=a.at'))))
def ZfB(b:Za)(a:Zc):Cq (Za×Int):=
 Cq.bind (ZcP b a.at') fun e=>Cq.bind (ZG 330 e) fun f=>Cq.bind (ZG 331 (fun _=>ZaI b a)) fun g=>Cq.bind (ZA [f,g]) fun c=>if ¬ c=0 then (Cq.ret ((Za.mk [] [] [] 0),c)) else (Cq.bind (ZK b.vars) fun d=>Cq.at' d a.at' fun h=>Cq.ret ((Za.mk (d.set a.at'.toNat a.name) b.eqs b.neqs b.next),0))
def Zhg(c:Za)(a:Zc):Cq (Za×Int):=
 Cq.bind (ZcP c a.at') fun f=>Cq.bind (ZG 330 f) fun g=>Cq.bind (ZcP c a.to') fun h=>Cq.bind (ZG 330 h) fun i=>Cq.bind (ZA [g,i]) fun e=>if ¬ e=0 then (Cq.ret ((Za.mk [] [] [] 0),e)) else (Cq.bind (Zbx) fun j=>Cq.chk (0<=a.at'/\a.at'<8) (Cq.chk (0<=a.to'/\a.to'<8) (Cq.bind (ZbJ c (setF (setF j a.at'.toNat a.to') a.to'.toNat a.at')) fun d=>Cq.bind (ZK d.vars) fun b=>Cq.at' b a.to' fun k=>Cq.at' b a.at' fun l=>Cq.at' b a.at' fun m=>Cq.at' (b.set a.at'.toNat k) a.to' fun n=>Cq.ret ((Za.mk ((b.set a.at'.toNat k).set a.to'.toNat l) d.eqs d.neqs d.next),0))))
def Zdu:Cq (Zb×Bool×Bool):=
 Cq.ret ((Zb.mk 0 []),false,false)
def Zdv(a:Int)(b:Zb):Cq ((Int×Zb)⊕((Zb×Bool×Bool)⊕Zb)):=
 Cq.ret (.inl (i64.wrap (a+1),b))
def Zf1(d:Int)(b:Int)(e:(List Zb)):(Int×Zb)->Cq ((Zb×Bool×Bool)⊕Zb):=
 Cq.loop fun g=>match g with|(a,c)=>if a<(e.length:Int) then (Cq.at' e a fun f=>if f.id=d then (Cq.ret (.inr (.inl (f,decide (b=1),true)))) else (Cq.ret (.inl (i64.wrap (a+1),c)))) else (Cq.ret (.inr (.inr c)))
def ZjP(b:Za)(d:Int):(Int×Zb)->Cq ((Zb×Bool×Bool)⊕Zb):=
 Cq.loop fun g=>match g with|(a,c)=>if a<([b.eqs,b.neqs].length:Int) then (Cq.at' [b.eqs,b.neqs] a fun h=>Cq.next (Zf1 d a h (0,c)) fun i=>match i with | .inl e=>Cq.ret (.inr (.inl e)) | .inr f=>Zdv a f) else (Cq.ret (.inr (.inr c)))
def Zb8(c:Za)(a:Int):Cq (Zb×Bool×Bool):=
 Cq.next (ZjP c a (0,(Zb.mk 0 []))) fun d=>match d with | .inl b=>Cq.ret b | .inr e=>Zdu
def ZV(a:Za)(b:Int):Cq Bool:=
 Cq.bind (Zb8 a b) fun c=>Cq.ret c.2.2
def ZbI(b:Za)(a:Int):Cq (Unit->Cq Bool):=
 Cq.ret (fun _=>ZV b a)
def Zax(a:Zc)(b:Za):Cq Bool:=
 if 0<=a.id then (if a.id<1000000 then (Cq.bind (ZbI b a.id) fun c=>Cq.bind (c ()) fun d=>Cq.ret (!d)) else (Cq.ret false)) else (Cq.ret false)
def Zcw(b:Za)(a:Bool):Cq (List Zb):=
 if a=true then (Cq.ret b.neqs) else (Cq.ret b.eqs)
def ZaO(a:Za)(b:Zc):Cq Bool:=
 Cq.bind (Zcw a b.neq) fun c=>if (c.length:Int)<12 then (if b.id=0 then (Cq.ret (decide (¬ (1000000<=a.next)))) else (Cq.ret true)) else (Cq.ret false)
def Zao(a:(List Ze))(b:Za):Cq Bool:=
 Cq.bind (Zbp a) fun c=>match c with|false=>(Cq.ret false)|true=>(Cq.bind (ZaX a) fun d=>Cq.chk (0<=(b.vars.length:Int)) (if (Int.fdiv (i64.wrap d) (2 ^ (min ((b.vars.length:Int)).toNat i64.bits)))=0 then (Cq.bind (Za8 a) fun e=>Cq.ret (decide (e<=12))) else (Cq.ret false)))
def Zhe(a:Za)(b:(List Ze)):Cq (Unit->Cq Bool):=
 Cq.ret (fun _=>Zao b a)
def Zb5(b:Za)(a:Zc):Cq Int:=
 if a.id=0 then (Cq.ret b.next) else (Cq.ret a.id)
def ZB(a:(List Zb)):Cq (List Zb):=
 Cq.nilCase a (Cq.ret []) (Cq.chk (([]++a).length<=small) (Cq.ret ([]++a)))
def cmp_isNaN_int(a:Int):Cq Bool:=
 Cq.ret (decide (¬ a=a))
def ZcM(b:Int)(a:Int):Cq Int:=
 Cq.bind (cmp_isNaN_int b) fun c=>Cq.bind (cmp_isNaN_int a) fun d=>if c=true then Cq.fail else (if d=true then Cq.fail else (if b<a then (Cq.ret (-1)) else (if a<b then (Cq.ret 1) else (Cq.ret 0))))
def ZbU(c:Zb)(a:Int):Cq Int:=
 Cq.bind (ZcM c.id a) fun b=>Cq.ret b
def Zp(c:(List Zb))(a:Int)(b:Int):Cq (Int×Bool):=
 if b<(c.length:Int) then (Cq.at' c b fun e=>Cq.bind (ZbU e a) fun d=>Cq.ret (b,decide (d=0))) else (Cq.ret (b,false))
def Z3(e:(List Zb))(a:Int):(Int×Int)->Cq Int:=
 Cq.loop fun f=>match f with|(b,c)=>if b<c then (Cq.at' e (i64.wrap (Int.fdiv (u64.wrap (i64.wrap (b+c))) (2 ^ (min (1:Int).toNat u64.bits)))) fun g=>Cq.bind (ZbU g a) fun d=>if d<0 then (Cq.ret (.inl (i64.wrap ((i64.wrap (Int.fdiv (u64.wrap (i64.wrap (b+c))) (2 ^ (min (1:Int).toNat u64.bits))))+1),c))) else (Cq.ret (.inl (b,i64.wrap (Int.fdiv (u64.wrap (i64.wrap (b+c))) (2 ^ (min (1:Int).toNat u64.bits))))))) else (Cq.ret (.inr b))
def Zn(b:(List Zb))(a:Int):Cq (Int×Bool):=
 Cq.next (Z3 b a (0,(b.length:Int))) fun c=>match c with|d=>Zp b a d
def Zdz(a:Za)(e:Zb)(b:Bool):Cq Za:=
 Cq.bind (Zcw a b) fun f=>Cq.bind (ZB f) fun c=>Cq.bind (Zn c e.id) fun g=>Cq.bind (ZU c g.1 [e]) fun d=>if b=true then (Cq.ret (Za.mk a.vars a.eqs d a.next)) else (Cq.ret (Za.mk a.vars d a.neqs a.next))
def Ziy(c:Za)(a:Zc):Cq (Za×Int):=
 Cq.bind (ZG 332 (fun _=>Zax a c)) fun f=>Cq.bind (ZG 2 (fun _=>ZaO c a)) fun g=>Cq.bind (Zhe c a.p) fun h=>Cq.bind (ZG 320 h) fun i=>Cq.bind (ZA [f,g,i]) fun e=>if ¬ e=0 then (Cq.ret ((Za.mk [] [] [] 0),e)) else (Cq.bind (Zb5 c a) fun d=>Cq.bind (Zdz c (Zb.mk d a.p) a.neq) fun b=>Cq.ret ((Za.mk b.vars b.eqs b.neqs (if b.next<(i64.wrap (d+1)) then (i64.wrap (d+1)) else b.next)),0))
def ZcR(b:Zb)(a:Int):Cq Bool:=
 Cq.ret (decide (b.id=a))
def Zy:Cq Int:=
 Cq.ret (-1)
def Zaf(c:(List Zb))(b:Int):Int->Cq (Int⊕Unit):=
 Cq.loop fun e=>match e with|a=>if a<(c.length:Int) then (Cq.at' c a fun f=>Cq.bind (ZcR f b) fun d=>if d=true then (Cq.ret (.inr (.inl a))) else (Cq.ret (.inl (i64.wrap (a+1))))) else (Cq.ret (.inr (.inr ())))
def Zz(c:(List Zb))(a:Int):Cq Int:=
 Cq.next (Zaf c a 0) fun d=>match d with | .inl b=>Cq.ret b | .inr ()=>Zy
def Zt(b:(List Zb))(a:Int):Cq (List Zb):=
 Cq.chk (0<=a/\a<=(b.length:Int)/\(b.length:Int)<=(b.length:Int)) (Cq.chk (0<=(0:Int)/\(0:Int)<=a/\a<=((b.take a.toNat++List.replicate (b.length-a.toNat) (Zb.mk 0 [])).length:Int)) (Cq.ret ((b.take a.toNat++List.replicate (b.length-a.toNat) (Zb.mk 0 [])).take a.toNat)))
def Zad(d:Int):((List Zb)×Int×Int)->Cq (((List Zb)×Int)):=
 Cq.loop fun g=>match g with|(a,b,c)=>if c<(a.length:Int) then (Cq.at' a c fun e=>Cq.bind (ZcR e d) fun f=>if (!f)=true then (Cq.at' a b fun h=>Cq.ret (.inl ((a.set b.toNat e),i64.wrap (b+1),i64.wrap (c+1)))) else (Cq.ret (.inl (a,b,i64.wrap (c+1))))) else (Cq.ret (.inr (a,b)))
def Zv(c:(List Zb))(a:Int):Cq (List Zb):=
 Cq.bind (Zz c a) fun b=>if b=(-1) then (Cq.ret c) else (Cq.next (Zad a (c,b,i64.wrap (b+1))) fun d=>match d with|(e,f)=>Zt e f)
def ZcQ(a:Za)(b:Int):Cq Za:=
 Cq.bind (ZB a.eqs) fun c=>Cq.bind (Zv c b) fun d=>Cq.bind (ZB a.neqs) fun e=>Cq.bind (Zv e b) fun f=>Cq.ret (Za.mk a.vars d f a.next)
def Zhd(c:Za)(a:Zc):Cq (Za×Int):=
 Cq.bind (ZbI c a.id) fun d=>Cq.bind (ZG 332 d) fun e=>Cq.bind (ZA [e]) fun b=>if ¬ b=0 then (Cq.ret ((Za.mk [] [] [] 0),b)) else (Cq.bind (ZcQ c a.id) fun f=>Cq.ret (f,0))
def ZfC(b:Zb)(a:Zc):Cq Zb:=
 if b.id=a.id then (Cq.ret (Zb.mk b.id a.p)) else (Cq.ret b)
def ZS(a:(List Zb)):Cq (List Zb):=
 Cq.ret a
def Zbw(d:(List Zb))(c:Zc):((List Zb)×Int)->Cq (List Zb):=
 Cq.loop fun f=>match f with|(b,a)=>if a<(d.length:Int) then (Cq.at' d a fun g=>Cq.bind (ZfC g c) fun e=>Cq.at' b a fun h=>Cq.ret (.inl ((b.set a.toNat e),i64.wrap (a+1)))) else (Cq.ret (.inr b))
def ZL(a:(List Zb))(b:Zc):Cq (List Zb):=
 Cq.chk (0<=(a.length:Int)/\(a.length:Int)<=1000000) (Cq.next (Zbw a b ((List.replicate (a.length:Int).toNat (Zb.mk 0 [])),0)) fun d=>match d with|c=>ZS c)
def ZiA(b:Za)(a:Zc):Cq (Za×Int):=
 Cq.bind (ZbI b a.id) fun d=>Cq.bind (ZG 332 d) fun e=>Cq.bind (Zhe b a.p) fun f=>Cq.bind (ZG 320 f) fun g=>Cq.bind (ZA [e,g]) fun c=>if ¬ c=0 then (Cq.ret ((Za.mk [] [] [] 0),c)) else (Cq.bind (ZL b.eqs a) fun h=>Cq.bind (ZL b.neqs a) fun i=>Cq.ret ((Za.mk b.vars h i b.next),0))
def ZaB(a:Za)(b:Bool):Cq Bool:=
 Cq.bind (Zcw a (!b)) fun c=>Cq.ret (decide ((c.length:Int)<12))
def Zhf(c:Za)(a:Zc):Cq (Za×Int):=
 Cq.bind (Zb8 c a.id) fun b=>Cq.bind (ZbI c a.id) fun e=>Cq.bind (ZG 332 e) fun f=>Cq.bind (ZG 2 (fun _=>ZaB c b.2.1)) fun g=>Cq.bind (ZA [f,g]) fun d=>if ¬ d=0 then (Cq.ret ((Za.mk [] [] [] 0),d)) else (Cq.bind (ZcQ c a.id) fun h=>Cq.bind (Zdz h b.1 (!b.2.1)) fun i=>Cq.ret (i,0))
def ZcN(b:Za)(a:Zc):Cq (Za×Int):=
 Cq.chk ((Lit.int i64 a.kind).wf=true) (if (!((mget Zu a.kind).isSome))=true then (Cq.ret ((Za.mk [] [] [] 0),1)) else (if (1:Int)=a.kind then (Cq.bind (ZfA b a) fun c=>Cq.ret (c.1,c.2)) else (if (2:Int)=a.kind then (Cq.bind (ZeB b a) fun d=>Cq.ret (d.1,d.2)) else (if (3:Int)=a.kind then (Cq.bind (ZfB b a) fun e=>Cq.ret (e.1,e.2)) else (if (4:Int)=a.kind then (Cq.bind (Zhg b a) fun f=>Cq.ret (f.1,f.2)) else (if (5:Int)=a.kind then (Cq.bind (Ziy b a) fun g=>Cq.ret (g.1,g.2)) else (if (6:Int)=a.kind then (Cq.bind (Zhd b a) fun h=>Cq.ret (h.1,h.2)) else (if (7:Int)=a.kind then (Cq.bind (ZiA b a) fun i=>Cq.ret (i.1,i.2)) else (if (8:Int)=a.kind then (Cq.bind (Zhf b a) fun j=>Cq.ret (j.1,j.2)) else Cq.fail)))))))))
def Zfz(b:(List Zc))(a:Za):Cq (Za×Int×Int):=
 Cq.ret (a,(b.length:Int),0)
def Zl5(e:(List Zc)):(Int×Za×Za)->Cq ((Za×Int×Int)⊕(Za×Za)):=
 Cq.loop fun f=>match f with|(a,c,d)=>if a<(e.length:Int) then (Cq.at' e a fun g=>Cq.bind (ZcN c g) fun b=>if ¬ b.2=0 then (Cq.ret (.inr (.inl ((Za.mk [] [] [] 0),a,b.2)))) else (Cq.ret (.inl (i64.wrap (a+1),b.1,d)))) else (Cq.ret (.inr (.inr (c,d))))
def Zez(d:Za)(a:(List Zc)):Cq (Za×Int×Int):=
 Cq.next (Zl5 a (0,d,(Za.mk [] [] [] 0))) fun e=>match e with | .inl b=>Cq.ret b | .inr (c,f)=>Zfz a c
def Zcd(a:Zg):Nat->Int->Cq Za
 | 0,_=>Cq.fail
 | k+1,b=>if b=0 then (Cq.ret a.root) else (Cq.at' a.v b fun f=>Cq.bind (Zcd a k f.parent) fun c=>Cq.at' a.v b fun g=>Cq.bind (Zez c g.e) fun d=>Cq.ret d.1)
def Zag(a:Zg)(b:Int):Cq Bool:=
 if 0<=b then (Cq.ret (decide (b<(a.v.length:Int)))) else (Cq.ret false)
def parV(h:Zg)(k:Nat):Int:=((h.v[k]?).map (·.parent)).getD (-1)
def othV(h:Zg)(k:Nat):Int:=((h.v[k]?).map (·.other)).getD (-1)
def downB(h:Zg)(v:Nat):Bool:=decide (v+1<=1000000) && (List.range (v+1)).all fun k=>match h.v[k]? with|some x=>decide (x.parent<=(v:Int)) && decide (x.other<=(v:Int))|none=>false
def ZaP(h:Zg)(a b:Int):Cq Bool:=
 Cq.bind (Zag h a) fun c=>match c with|false=>(Cq.ret false)|true=>(Cq.bind (Zag h b) fun d=>if (!d)=true then (Cq.ret false) else Cq.chk (0<=b/\downB h b.toNat=true) (Cq.ret (decide (a ∈ ancU (parV h) (othV h) b.toNat))))
def Zc4(h:Zg)(a b:Int):Cq (Int×Int):=
 Cq.bind (Zag h a) fun c=>match c with|false=>(Cq.ret (0,340))|true=>(Cq.bind (Zag h b) fun d=>if (!d)=true then (Cq.ret (0,340)) else Cq.chk ((0<=a/\downB h a.toNat=true)/\(0<=b/\downB h b.toNat=true)) (Cq.ret (match (ancU (parV h) (othV h) a.toNat).find? (fun x=>decide (x ∈ ancU (parV h) (othV h) b.toNat)) with|some x=>(x,0)|none=>(0,0))))
def ZfE(c:(List Int))(a:Int):Cq ((List Int)×Int):=
 Cq.bind (ZbK c) fun b=>Cq.ret (b,a)
def ZfD(f:(List Int))(c:Int):((List Int)×Int×Int)->Cq (((List Int)×Int)):=
 Cq.loop fun g=>match g with|(d,a,b)=>if 0<=b then (Cq.at' f b fun e=>Cq.chk (c≠0) (Cq.at' d b fun h=>Cq.chk (c≠0) (Cq.ret (.inl ((d.set b.toNat (u32.wrap (u64.wrap (Int.tdiv (u64.wrap (BitVec.ofInt u64.bits (u64.wrap (a*2 ^ (min (32:Int).toNat u64.bits))) ||| BitVec.ofInt u64.bits (u64.wrap e)).toNat) c)))),Int.tmod (u64.wrap (BitVec.ofInt u64.bits (u64.wrap (a*2 ^ (min (32:Int).toNat u64.bits))) ||| BitVec.ofInt u64.bits (u64.wrap e)).toNat) c,i64.wrap (b-1)))))) else (Cq.ret (.inr (d,a)))
def Znk(a:(List Int))(c:Int):Cq ((List Int)×Int):=
 Cq.chk (0<=(a.length:Int)/\(a.length:Int)<=1000000) (Cq.next (ZfD a c ((List.replicate (a.length:Int).toNat 0),0,i64.wrap ((a.length:Int)-1))) fun d=>match d with|(e,b)=>ZfE e b)
def ZfL(a:Za):Cq (Zg×Int):=
 Cq.bind (Z7 a) fun b=>if (!b)=true then (Cq.ret ((Zg.mk (Za.mk [] [] [] 0) []),320)) else (Cq.ret ((Zg.mk a [(Zf.mk (-1) (-1) [])]),0))
def Zcr:Cq Bool:=
 Cq.ret true
def ZeU(b:(List Za))(a:Int)(d:Zf):Cq (((List Za)×Int)⊕(Bool⊕Unit)):=
 Cq.at' b d.parent fun f=>Cq.bind (Zez f d.e) fun c=>if ¬ c.2.2=0 then (Cq.ret (.inr (.inl false))) else (Cq.at' b a fun g=>Cq.ret (.inl ((b.set a.toNat c.1),i64.wrap (a+1))))
def ZeT(c:Zg):((List Za)×Int)->Cq (Bool⊕Unit):=
 Cq.loop fun f=>match f with|(d,a)=>if a<(c.v.length:Int) then (Cq.at' c.v a fun b=>if a=0 then (if ¬ b.parent=(-1) then (Cq.ret (.inr (.inl false))) else (if ¬ b.other=(-1) then (Cq.ret (.inr (.inl false))) else (if 0<(b.e.length:Int) then (Cq.ret (.inr (.inl false))) else (Cq.at' d 0 fun g=>Cq.ret (.inl ((d.set (0:Int).toNat c.root),i64.wrap (a+1))))))) else (if b.parent<0 then (Cq.ret (.inr (.inl false))) else (if a<=b.parent then (Cq.ret (.inr (.inl false))) else (if b.other<(-1) then (Cq.ret (.inr (.inl false))) else (if a<=b.other then (Cq.ret (.inr (.inl false))) else (if 64<(b.e.length:Int) then (Cq.ret (.inr (.inl false))) else (ZeU d a b))))))) else (Cq.ret (.inr (.inr ())))
def ZaM(a:Zg):Cq Bool:=
 Cq.chk (0<=(a.v.length:Int)/\(a.v.length:Int)<=1000000) (Cq.next (ZeT a ((List.replicate (a.v.length:Int).toNat (Za.mk [] [] [] 0)),0)) fun c=>match c with | .inl b=>Cq.ret b | .inr ()=>Zcr)
def ZO(a:Zg):Cq Bool:=
 Cq.bind (Z7 a.root) fun b=>match b with|false=>(Cq.ret false)|true=>(if (a.v.length:Int)<1 then (Cq.ret false) else (if 200<(a.v.length:Int) then (Cq.ret false) else (ZaM a)))
def Zhl(a:ByteArray):Cq (List Zc):=
 Cq.ret [(Zc.mk 1 a 0 0 0 [] false)]
def Zbs(a:Zg)(b:Int):Cq (Za×Int):=
 Cq.bind (Zag a b) fun c=>if (!c)=true then (Cq.ret ((Za.mk [] [] [] 0),340)) else (Cq.bind (Zcd a (b.toNat+1) b) fun d=>Cq.ret (d,0))
def Zah(a:(List Zc)):Cq (List Zc):=
 Cq.nilCase a (Cq.ret []) (Cq.chk (([]++a).length<=small) (Cq.ret ([]++a)))
def Z0(a:(List Zf)):Cq (List Zf):=
 Cq.nilCase a (Cq.ret []) (Cq.chk (([]++a).length<=small) (Cq.ret ([]++a)))
def Zd3(a:Zg)(e:Int)(f:(List Zc))(g:Za×Int):Cq (Zg×Int×Int):=
 Cq.bind (Zez g.1 f) fun b=>if ¬ b.2.2=0 then (Cq.ret ((Zg.mk (Za.mk [] [] [] 0) []),0,b.2.2)) else (Cq.bind (Zah f) fun c=>Cq.bind (Z0 a.v) fun d=>Cq.chk ((d++[(Zf.mk e (-1) c)]).length<=small) (Cq.ret ((Zg.mk a.root (d++[(Zf.mk e (-1) c)])),(a.v.length:Int),0)))
def Zap(a:Zg)(c:Int)(d:(List Zc)):Cq (Zg×Int×Int):=
 Cq.bind (Zbs a c) fun b=>if ¬ b.2=0 then (Cq.ret ((Zg.mk (Za.mk [] [] [] 0) []),0,b.2)) else (if 200<=(a.v.length:Int) then (Cq.ret ((Zg.mk (Za.mk [] [] [] 0) []),0,2)) else (if 64<(d.length:Int) then (Cq.ret ((Zg.mk (Za.mk [] [] [] 0) []),0,2)) else (Zd3 a c d b)))
def ZeA(b:Za)(a:Zc):Cq (Zc×Int):=
 Cq.bind (ZcN b a) fun d=>if ¬ d.2=0 then (Cq.ret ((Zc.mk 0 ByteArray.empty 0 0 0 [] false),d.2)) else (if a.kind=1 then (Cq.ret ((Zc.mk 2 ByteArray.empty a.at' 0 0 [] false),0)) else (if a.kind=2 then (Cq.at' b.vars a.at' fun f=>Cq.ret ((Zc.mk 1 f a.at' 0 0 [] false),0)) else (if a.kind=3 then (Cq.at' b.vars a.at' fun g=>Cq.ret ((Zc.mk 3 g a.at' 0 0 [] false),0)) else (if a.kind=4 then (Cq.ret ((Zc.mk 4 ByteArray.empty a.at' a.to' 0 [] false),0)) else (if a.kind=5 then (Cq.bind (Zb5 b a) fun e=>Cq.ret ((Zc.mk 6 ByteArray.empty 0 0 e [] false),0)) else (if a.kind=8 then (Cq.ret ((Zc.mk 8 ByteArray.empty 0 0 a.id [] false),0)) else (Cq.bind (Zb8 b a.id) fun c=>if a.kind=6 then (Cq.ret ((Zc.mk 5 ByteArray.empty 0 0 a.id c.1.p c.2.1),0)) else (Cq.ret ((Zc.mk 7 ByteArray.empty 0 0 a.id c.1.p false),0)))))))))
def Z5(a:(List Zc)):Cq (List Zc):=
 Cq.ret a
def ZbZ:((List Zc)×Int×Int)->Cq (List Zc):=
 Cq.loop fun e=>match e with|(a,b,c)=>if b<c then (Cq.at' a c fun d=>Cq.at' a b fun f=>Cq.at' a b fun g=>Cq.at' (a.set b.toNat d) c fun h=>Cq.ret (.inl (((a.set b.toNat d).set c.toNat f),i64.wrap (b+1),i64.wrap (c-1)))) else (Cq.ret (.inr a))
def Z9(a:(List Zc)):Cq (List Zc):=
 Cq.next (ZbZ (a,0,i64.wrap ((a.length:Int)-1))) fun b=>match b with|c=>Z5 c
def Zc6(b:Zg)(c:Int)(d:(List Zc)):Cq (Zg×Int×Int):=
 Cq.bind (Z9 d) fun e=>Cq.bind (Zap b c e) fun a=>Cq.ret (a.1,a.2.1,a.2.2)
def Zc7(a:Zg)(b:Int)(c:(List Zc)):Cq (Zg×Int×Int):=
 Zc6 a b c
def Zjr(f:Zf):((List Zc)×Int×Za)->Cq (List Zc):=
 Cq.loop fun i=>match i with|(b,a,c)=>if a<(f.e.length:Int) then (Cq.at' f.e a fun g=>Cq.bind (ZeA c g) fun d=>Cq.chk ((b++[d.1]).length<=small) (Cq.bind (ZcN c g) fun h=>Cq.ret (.inl ((b++[d.1]),i64.wrap (a+1),h.1)))) else (Cq.ret (.inr b))
def Zc5(a:Zg)(c:Int)(b:Int):Cq (Zg×Int×Int):=
 Cq.bind (ZaP a b c) fun e=>if (!e)=true then (Cq.ret ((Zg.mk (Za.mk [] [] [] 0) []),0,340)) else (if 0<b then (Cq.at' a.v b fun g=>Cq.bind (Zbs a g.parent) fun f=>Cq.at' a.v b fun h=>Cq.next (Zjr h ([],0,f.1)) fun i=>match i with|d=>Zc7 a c d) else (Zc6 a c []))
def Ze6(a:Zg×Int×Int):Cq Bool:=
 Cq.bind (Zbs a.1 3) fun b=>Cq.bind (Zbs a.1 2) fun c=>Cq.bind (Zbs a.1 4) fun d=>if b.2=0 then (if c.2=0 then (if d.2=340 then (if (b.1.vars.length:Int)=0 then (if (c.1.vars.length:Int)=1 then (Cq.bind (ZO (Zg.mk (Za.mk [] [] [] 1) [])) fun e=>Cq.ret (!e)) else (Cq.ret false)) else (Cq.ret false)) else (Cq.ret false)) else (Cq.ret false)) else (Cq.ret false)
def Ze7(b:Zg×Int×Int):Cq Bool:=
 Cq.bind (Zc4 b.1 1 2) fun c=>Cq.bind (Zc5 b.1 1 1) fun a=>Cq.bind (Zc5 b.1 1 2) fun d=>if ¬ c.2=0 then (Cq.ret false) else (if ¬ c.1=0 then (Cq.ret false) else (if ¬ a.2.2=0 then (Cq.ret false) else (if ¬ a.2.1=3 then (Cq.ret false) else (if ¬ (a.1.v.length:Int)=4 then (Cq.ret false) else (if ¬ d.2.2=340 then (Cq.ret false) else (Cq.bind (ZaP b.1 1 2) fun e=>match e with|false=>(Cq.bind (ZaP b.1 0 2) fun f=>if (!f)=true then (Cq.ret false) else (Ze6 a))|true=>(Cq.ret false)))))))
def Ze8(c:Zg×Int×Int):Cq Bool:=
 Cq.bind (Zhl ZJ) fun d=>Cq.bind (Zap c.1 0 d) fun a=>if ¬ a.2.2=0 then (Cq.ret false) else (if ¬ a.2.1=2 then (Cq.ret false) else (if ¬ (a.1.v.length:Int)=3 then (Cq.ret false) else (Cq.bind (ZO a.1) fun b=>if (!b)=true then (Cq.ret false) else (Ze7 a))))
def Ze9(b:Zg×Int):Cq Bool:=
 Cq.bind (Zhl Zr) fun c=>Cq.bind (Zap b.1 0 c) fun a=>if ¬ a.2.2=0 then (Cq.ret false) else (if ¬ a.2.1=1 then (Cq.ret false) else (if ¬ (a.1.v.length:Int)=2 then (Cq.ret false) else (Ze8 a)))
def ZeH:Cq Bool:=
 Cq.bind (ZfL (Za.mk [] [] [] 1)) fun a=>if ¬ a.2=0 then (Cq.ret false) else (if ¬ (a.1.v.length:Int)=1 then (Cq.ret false) else (Cq.bind (ZO a.1) fun b=>if (!b)=true then (Cq.ret false) else (Ze9 a)))
def ZjY:Cq (List ByteArray):=
 Cq.ret [Zr,ZJ,Zas,Zai,Z6,Z1]
def ZhJ(a:Int):Cq Int:=
 if a<0 then (Cq.ret (i64.wrap (0-(i64.wrap a)))) else (Cq.ret (i64.wrap a))
def Zfj(b:(List Int))(a:Int):Cq (List Int):=
 Cq.chk (0<=(0:Int)/\(0:Int)<=a/\a<=(b.length:Int)) (Cq.ret ((b.take a.toNat).drop (0:Int).toNat))
def ZlK(b:(List Int)):Int->Cq Int:=
 Cq.loop fun c=>match c with|a=>if 0<a then (Cq.at' b (i64.wrap (a-1)) fun d=>if d=0 then (Cq.ret (.inl (i64.wrap (a-1)))) else (Cq.ret (.inr a))) else (Cq.ret (.inr a))
def Zce(a:(List Int)):Cq (List Int):=
 Cq.next (ZlK a (a.length:Int)) fun b=>match b with|c=>Zfj a c
def ZdG(a:Int):Cq (List Int):=
 Cq.bind (Zce [u32.wrap (Int.tmod a 4294967296),u32.wrap (u64.wrap (Int.tdiv a 4294967296))]) fun b=>Cq.ret b
def Za0(b:Bool)(c:(List Int)):Cq Zj:=
 Cq.bind (Zce c) fun a=>if b=true then (Cq.ret (Zj.mk (decide (0<(a.length:Int))) a)) else (Cq.ret (Zj.mk false a))
def ZiU(a:Int):Cq Zj:=
 if a<0 then (Cq.bind (ZdG (u64.wrap ((u64.wrap (i64.wrap (0-(i64.wrap (a+1)))))+1))) fun b=>Cq.bind (Za0 true b) fun c=>Cq.ret c) else (Cq.bind (ZdG (u64.wrap a)) fun d=>Cq.bind (Za0 false d) fun e=>Cq.ret e)
def ZdH(c:Int):Cq Zm:=
 Cq.bind (ZiU c) fun a=>Cq.bind (ZiU 1) fun b=>Cq.ret (Zm.mk a b)
def Zf4(a:Zj):Cq Int:=
 if a.neg=true then (Cq.ret (-1)) else (Cq.ret (if 1<(a.mag.length:Int) then 1 else (a.mag.length:Int)))
def Zcf(b:Zm):Cq Int:=
 Cq.bind (Zf4 b.num) fun a=>Cq.ret a
def Zep:Cq Bool:=
 Cq.ret true
def ZkP(b:(Fin 8->Int)):Int->Cq (Bool⊕Unit):=
 Cq.loop fun c=>match c with|a=>if a<8 then (Cq.chk (0<=a/\a<8) (if (getF b a)<0 then (Cq.ret (.inr (.inl false))) else (Cq.chk (0<=a/\a<8) (if 65535<(getF b a) then Cq.fail else (Cq.ret (.inl (i64.wrap (a+1)))))))) else (Cq.ret (.inr (.inr ())))
def ZeY(b:(Fin 8->Int)):Cq Bool:=
 Cq.next (ZkP b 0) fun c=>match c with | .inl a=>Cq.ret a | .inr ()=>Zep
def Zga(a:(Fin 8->Int)):Cq ((Fin 8->Int)×Int):=
 Cq.bind (ZeY a) fun b=>if (!b)=true then Cq.fail else (Cq.ret (a,0))
def ZmM(c:(Fin 8->Int)):(Int×(Fin 8->Int))->Cq (Fin 8->Int):=
 Cq.loop fun d=>match d with|(a,b)=>if a<8 then (Cq.chk (0<=a/\a<8) (Cq.chk (0<=a/\a<8) (Cq.chk (0<=a/\a<8) (Cq.ret (.inl (i64.wrap (a+1),setF b a.toNat (i64.wrap ((getF b a)+(getF c a))))))))) else (Cq.ret (.inr b))
def ZjA(b:(Fin 8->Int))(c:(Fin 8->Int)):Cq ((Fin 8->Int)×Int):=
 Cq.next (ZmM c (0,b)) fun d=>match d with|a=>Zga a
def Zen(a:(List Int)):Cq (List Int):=
 Cq.bind (Zce a) fun b=>Cq.ret b
def Zeo(b:(List Int))(a:Int)(c:(List Int))(d:Int):Cq (((List Int)×Int)⊕(List Int)):=
 Cq.at' c (i64.wrap (a+(b.length:Int))) fun e=>Cq.ret (.inl ((c.set (i64.wrap (a+(b.length:Int))).toNat (u32.wrap d)),i64.wrap (a+1)))
def ZkO(f:(List Int))(e:(List Int))(b:Int):((List Int)×Int×Int)->Cq (((List Int)×Int)):=
 Cq.loop fun j=>match j with|(c,d,a)=>if a<(e.length:Int) then (Cq.at' f b fun g=>Cq.at' e a fun h=>Cq.at' c (i64.wrap (b+a)) fun i=>Cq.at' c (i64.wrap (b+a)) fun k=>Cq.ret (.inl ((c.set (i64.wrap (b+a)).toNat (u32.wrap (Int.tmod (u64.wrap ((u64.wrap ((u64.wrap ((u64.wrap g)*(u64.wrap h)))+(u64.wrap i)))+d)) 4294967296))),u64.wrap (Int.tdiv (u64.wrap ((u64.wrap ((u64.wrap ((u64.wrap g)*(u64.wrap h)))+(u64.wrap i)))+d)) 4294967296),i64.wrap (a+1)))) else (Cq.ret (.inr (c,d)))
def ZkN(b:(List Int))(c:(List Int)):((List Int)×Int)->Cq (List Int):=
 Cq.loop fun g=>match g with|(d,a)=>if a<(b.length:Int) then (Cq.next (ZkO b c a (d,0,0)) fun h=>match h with|(e,f)=>Zeo c a e f) else (Cq.ret (.inr d))
def ZjW(a:(List Int))(b:(List Int)):Cq (List Int):=
 Cq.chk (0<=i64.wrap ((a.length:Int)+(b.length:Int))/\(i64.wrap ((a.length:Int)+(b.length:Int)))<=1000000) (Cq.next (ZkN a b ((List.replicate (i64.wrap ((a.length:Int)+(b.length:Int))).toNat 0),0)) fun d=>match d with|c=>Zen c)
def Zeg(a:Zj)(b:Zj):Cq Zj:=
 Cq.bind (ZjW a.mag b.mag) fun c=>Cq.bind (Za0 (decide (¬ a.neg=b.neg)) c) fun d=>Cq.ret d
def Zdb(a:(List Int))(b:Int):Cq Int:=
 if b<(a.length:Int) then (Cq.at' a b fun c=>Cq.ret (u64.wrap c)) else (Cq.ret 0)
def Zf5(a:(List Int)):Cq Int:=
 Cq.bind (Zdb a 1) fun b=>Cq.bind (Zdb a 0) fun c=>Cq.ret (u64.wrap ((u64.wrap (b*4294967296))+c))
def ZdT(a:Int):Cq Int:=
 Cq.ret a
def Zkw:(Int×Int)->Cq Int:=
 Cq.loop fun c=>match c with|(b,a)=>if 0<a then (Cq.chk (a≠0) (Cq.ret (.inl (a,Int.tmod b a)))) else (Cq.ret (.inr b))
def ZiX(a:Int)(b:Int):Cq Int:=
 Cq.next (Zkw (a,b)) fun c=>match c with|d=>ZdT d
def ZcD:Cq Int:=
 Cq.ret 0
def ZiW(b:(List Int))(c:(List Int)):Int->Cq (Int⊕Unit):=
 Cq.loop fun d=>match d with|a=>if 0<=a then (Cq.at' b a fun e=>Cq.at' c a fun f=>if e<f then (Cq.ret (.inr (.inl (-1)))) else (Cq.at' b a fun g=>Cq.at' c a fun h=>if h<g then (Cq.ret (.inr (.inl 1))) else (Cq.ret (.inl (i64.wrap (a-1)))))) else (Cq.ret (.inr (.inr ())))
def ZaD(a:(List Int))(b:(List Int)):Cq Int:=
 if (a.length:Int)<(b.length:Int) then (Cq.ret (-1)) else (if (b.length:Int)<(a.length:Int) then (Cq.ret 1) else (Cq.next (ZiW a b (i64.wrap ((a.length:Int)-1))) fun d=>match d with | .inl c=>Cq.ret c | .inr ()=>ZcD))
def Zda(a:(List Int))(b:Int):Cq ((List Int)×Int):=
 Cq.bind (Zce a) fun c=>Cq.ret (c,b)
def Zjw(f:(List Int))(d:Int):((List Int)×Int×Int)->Cq (((List Int)×Int)):=
 Cq.loop fun g=>match g with|(a,b,c)=>if 0<=c then (Cq.at' f c fun e=>Cq.chk (d≠0) (Cq.at' a c fun h=>Cq.chk (d≠0) (Cq.ret (.inl ((a.set c.toNat (u32.wrap (u64.wrap (Int.tdiv (u64.wrap ((u64.wrap (b*4294967296))+(u64.wrap e))) d)))),Int.tmod (u64.wrap ((u64.wrap (b*4294967296))+(u64.wrap e))) d,i64.wrap (c-1)))))) else (Cq.ret (.inr (a,b)))
def ZhY(a:(List Int))(d:Int):Cq ((List Int)×Int):=
 Cq.chk (0<=(a.length:Int)/\(a.length:Int)<=1000000) (Cq.next (Zjw a d ((List.replicate (a.length:Int).toNat 0),0,i64.wrap ((a.length:Int)-1))) fun e=>match e with|(b,c)=>Zda b c)
def Zfi(a:(List Int))(b:(List Int)):Cq ((List Int)×(List Int)):=
 Cq.bind (ZaD a b) fun d=>if d<0 then (Cq.ret ([],a)) else (if (b.length:Int)=1 then (Cq.at' b 0 fun f=>Cq.bind (ZhY a (u64.wrap f)) fun c=>Cq.bind (ZdG c.2) fun e=>Cq.ret (c.1,e)) else Cq.fail)
def ZdR(a:(List Int)):Cq (List Int):=
 Cq.ret a
def ZdS(c:(List Int))(b:(List Int))(a:Bool):Cq (((List Int)×(List Int))⊕((List Int)⊕(List Int))):=
 if a=true then (Cq.bind (Zf5 c) fun d=>Cq.bind (Zf5 b) fun e=>Cq.bind (ZiX d e) fun f=>Cq.bind (ZdG f) fun g=>Cq.ret (.inr (.inl g))) else (Cq.bind (Zfi c b) fun h=>Cq.ret (.inl (b,h.2)))
def Zkv:((List Int)×(List Int))->Cq ((List Int)⊕(List Int)):=
 Cq.loop fun c=>match c with|(a,b)=>if 0<(b.length:Int) then (if (a.length:Int)<=2 then (ZdS a b (decide ((b.length:Int)<=2))) else (ZdS a b false)) else (Cq.ret (.inr (.inr a)))
def ZiV(b:(List Int))(c:(List Int)):Cq (List Int):=
 Cq.next (Zkv (b,c)) fun d=>match d with | .inl a=>Cq.ret a | .inr e=>ZdR e
def Zjv(c:Zj)(d:Zj):Cq Zj:=
 Cq.bind (ZiV c.mag d.mag) fun a=>Cq.bind (Za0 false a) fun b=>Cq.ret b
def Zel(a:(List Int)):Cq (List Int):=
 Cq.bind (Zce a) fun b=>Cq.ret b
def ZkL(f:(List Int))(g:(List Int)):((List Int)×Int×Int)->Cq (List Int):=
 Cq.loop fun h=>match h with|(b,a,c)=>if c<(i64.wrap ((if (f.length:Int)<(g.length:Int) then (g.length:Int) else (f.length:Int))+1)) then (Cq.bind (Zdb f c) fun d=>Cq.bind (Zdb g c) fun e=>Cq.at' b c fun i=>Cq.ret (.inl ((b.set c.toNat (u32.wrap (Int.tmod (u64.wrap ((u64.wrap (d+e))+a)) 4294967296))),u64.wrap (Int.tdiv (u64.wrap ((u64.wrap (d+e))+a)) 4294967296),i64.wrap (c+1)))) else (Cq.ret (.inr b))
def ZjV(a:(List Int))(b:(List Int)):Cq (List Int):=
 Cq.chk (0<=i64.wrap ((if (a.length:Int)<(b.length:Int) then (b.length:Int) else (a.length:Int))+1)/\(i64.wrap ((if (a.length:Int)<(b.length:Int) then (b.length:Int) else (a.length:Int))+1))<=1000000) (Cq.next (ZkL a b ((List.replicate (i64.wrap ((if (a.length:Int)<(b.length:Int) then (b.length:Int) else (a.length:Int))+1)).toNat 0),0,0)) fun d=>match d with|c=>Zel c)
def Zem(a:(List Int)):Cq (List Int):=
 Cq.bind (Zce a) fun b=>Cq.ret b
def ZkM(e:(List Int))(g:(List Int)):((List Int)×Int×Int)->Cq (List Int):=
 Cq.loop fun h=>match h with|(b,a,c)=>if c<(e.length:Int) then (Cq.at' e c fun f=>Cq.bind (Zdb g c) fun d=>Cq.at' b c fun i=>Cq.ret (.inl ((b.set c.toNat (u32.wrap (Int.tmod (u64.wrap ((u64.wrap ((u64.wrap (4294967296+(u64.wrap f)))-d))-a)) 4294967296))),u64.wrap (1-(u64.wrap (Int.tdiv (u64.wrap ((u64.wrap ((u64.wrap (4294967296+(u64.wrap f)))-d))-a)) 4294967296))),i64.wrap (c+1)))) else (Cq.ret (.inr b))
def ZgS(a:(List Int))(c:(List Int)):Cq (List Int):=
 Cq.chk (0<=(a.length:Int)/\(a.length:Int)<=1000000) (Cq.next (ZkM a c ((List.replicate (a.length:Int).toNat 0),0,0)) fun d=>match d with|b=>Zem b)
def ZgB(d:Zj)(e:Zj)(f:(List Int))(a:(List Int)):Cq (Zj×Zj×Int):=
 Cq.bind (Za0 (decide (¬ d.neg=e.neg)) f) fun b=>Cq.bind (Za0 false a) fun c=>Cq.ret (b,c,0)
def ZdQ(c:Zj)(d:Zj)(b:(List Int)×(List Int))(a:Bool):Cq (Zj×Zj×Int):=
 if a=true then Cq.fail else (ZgB c d b.1 b.2)
def ZiT(b:Zj)(c:Zj):Cq (Zj×Zj×Int):=
 if (c.mag.length:Int)=0 then Cq.fail else (Cq.bind (Zfi b.mag c.mag) fun a=>if b.neg=true then (ZdQ b c a (decide (0<(a.2.length:Int)))) else (ZdQ b c a false))
def ZgU(b:Zj)(c:Zj):Cq Zj:=
 Cq.bind (ZiT b c) fun a=>Cq.ret a.1
def ZgC(d:Zj)(e:Zj)(a:Zj):Cq Zm:=
 Cq.bind (ZgU d a) fun b=>Cq.bind (ZgU e a) fun c=>Cq.ret (Zm.mk b c)
def Zf6(b:Zj)(a:Zj):Cq Zm:=
 Cq.bind (Zjv b a) fun c=>Cq.bind (Zf4 a) fun d=>if d<0 then Cq.fail else (ZgC b a c)
def Zjx(a:Zm)(b:Zm):Cq Zm:=
 Cq.bind (Zeg a.num b.num) fun c=>Cq.bind (Zeg a.den b.den) fun d=>Cq.bind (Zf6 c d) fun e=>Cq.ret e
def Zeq(a:(List Ze)):Cq ((List Ze)×Int):=
 Cq.ret (a,0)
def ZkQ(g:Zm)(h:(Fin 8->Int))(f:(List Ze)):((List Ze)×Int)->Cq (((List Ze)×Int)⊕(List Ze)):=
 Cq.loop fun i=>match i with|(a,d)=>if d<(f.length:Int) then (Cq.at' f d fun j=>Cq.bind (ZjA h j.m) fun b=>if ¬ b.2=0 then Cq.fail else (Cq.at' f d fun k=>Cq.bind (Zjx g k.c) fun e=>Cq.chk ((a++[(Ze.mk e b.1)]).length<=small) (Cq.ret (.inl ((a++[(Ze.mk e b.1)]),i64.wrap (d+1)))))) else (Cq.ret (.inr (.inr a)))
def ZjX(b:Zm)(e:(Fin 8->Int))(f:(List Ze)):Cq ((List Ze)×Int):=
 Cq.bind (Zcf b) fun c=>if c=0 then (Cq.ret ([],0)) else (Cq.next (ZkQ b e f ([],0)) fun g=>match g with | .inl d=>Cq.ret d | .inr a=>Zeq a)
def ZgV(b:Zm)(c:(List Ze)):Cq (List Ze):=
 Cq.bind (ZjX b (fun _=>0) c) fun a=>Cq.ret a.1
def Zf8:Cq Int:=
 Cq.ret 0
def ZmL(b:(Fin 8->Int))(c:(Fin 8->Int)):Int->Cq (Int⊕Unit):=
 Cq.loop fun d=>match d with|a=>if a<8 then (Cq.chk (0<=a/\a<8) (Cq.chk (0<=a/\a<8) (if (getF b a)<(getF c a) then (Cq.ret (.inr (.inl (-1)))) else (Cq.chk (0<=a/\a<8) (Cq.chk (0<=a/\a<8) (if (getF c a)<(getF b a) then (Cq.ret (.inr (.inl 1))) else (Cq.ret (.inl (i64.wrap (a+1)))))))))) else (Cq.ret (.inr (.inr ())))
def ZfO(b:(Fin 8->Int))(c:(Fin 8->Int)):Cq Int:=
 Cq.next (ZmL b c 0) fun d=>match d with | .inl a=>Cq.ret a | .inr ()=>Zf8
def Zma(a:Zj)(b:Zj):Cq Zj:=
 if a.neg=b.neg then (Cq.bind (ZjV a.mag b.mag) fun c=>Cq.bind (Za0 a.neg c) fun d=>Cq.ret d) else (Cq.bind (ZaD a.mag b.mag) fun e=>if e<0 then (Cq.bind (ZgS b.mag a.mag) fun f=>Cq.bind (Za0 b.neg f) fun g=>Cq.ret g) else (Cq.bind (ZgS a.mag b.mag) fun h=>Cq.bind (Za0 a.neg h) fun i=>Cq.ret i))
def ZhI(a:Zm)(b:Zm):Cq Zm:=
 Cq.bind (Zeg a.num b.den) fun c=>Cq.bind (Zeg b.num a.den) fun d=>Cq.bind (Zma c d) fun e=>Cq.bind (Zeg a.den b.den) fun f=>Cq.bind (Zf6 e f) fun g=>Cq.ret g
def Zgb(a:(List Ze)):Cq (List Ze):=
 Cq.ret a
def Zgc(e:(List Ze))(g:(List Ze))(a:Int)(b:(List Ze))(d:Int):Cq (((List Ze)×Int×Int)⊕(List Ze)):=
 Cq.at' e a fun j=>Cq.at' g d fun k=>Cq.bind (ZhI j.c k.c) fun f=>Cq.bind (Zcf f) fun h=>if ¬ h=0 then (Cq.at' e a fun i=>Cq.chk ((b++[(Ze.mk f i.m)]).length<=small) (Cq.ret (.inl ((b++[(Ze.mk f i.m)]),i64.wrap (a+1),i64.wrap (d+1))))) else (Cq.ret (.inl (b,i64.wrap (a+1),i64.wrap (d+1))))
def ZcE(f:(List Ze))(c:(List Ze))(a:Int)(b:(List Ze))(d:Int)(e:Bool):Cq (((List Ze)×Int×Int)⊕(List Ze)):=
 if e=true then (Cq.at' c a fun g=>Cq.chk ((b++[g]).length<=small) (Cq.ret (.inl ((b++[g]),d,i64.wrap (a+1))))) else (Zgc f c d b a)
def ZcF(a:(List Ze))(c:(List Ze))(d:Int)(e:(List Ze))(b:Int):Cq (((List Ze)×Int×Int)⊕(List Ze)):=
 if b=(a.length:Int) then (ZcE a c d e b true) else (Cq.at' a b fun g=>Cq.at' c d fun h=>Cq.bind (ZfO g.m h.m) fun f=>ZcE a c d e b (decide (f<0)))
def ZaR(c:(List Ze))(f:(List Ze))(a:(List Ze))(b:Int)(d:Int)(e:Bool):Cq (((List Ze)×Int×Int)⊕(List Ze)):=
 if e=true then (Cq.at' c b fun g=>Cq.chk ((a++[g]).length<=small) (Cq.ret (.inl ((a++[g]),i64.wrap (b+1),d)))) else (ZcF c f d a b)
def Zbj(a:(List Ze))(b:(List Ze))(e:(List Ze))(c:Int)(d:Int):Cq (((List Ze)×Int×Int)⊕(List Ze)):=
 if d=(b.length:Int) then (ZaR a b e c d true) else (if c<(a.length:Int) then (Cq.at' a c fun g=>Cq.at' b d fun h=>Cq.bind (ZfO g.m h.m) fun f=>ZaR a b e c d (decide (0<f))) else (ZaR a b e c d false))
def ZmN(a:(List Ze))(b:(List Ze)):((List Ze)×Int×Int)->Cq (List Ze):=
 Cq.loop fun f=>match f with|(c,d,e)=>if d<(a.length:Int) then (Zbj a b c d e) else (if e<(b.length:Int) then (Zbj a b c d e) else (Cq.ret (.inr c)))
def ZfP(a:(List Ze))(b:(List Ze)):Cq (List Ze):=
 Cq.next (ZmN a b ([],0,0)) fun d=>match d with|c=>Zgb c
def Zfn(a:(List Ze)):Cq (List Ze):=
 Cq.ret a
def Zfo(b:ZE)(c:(List Ze))(a:Int)(d:(Fin 8->Int)):Cq (((List Ze)×Int)⊕(List Ze)):=
 Cq.at' b.t a fun i=>Cq.bind (ZdH (i64.wrap (Int.tmod (getF i 0) 4))) fun e=>Cq.bind (ZdH 1) fun f=>Cq.bind (ZgV e [(Ze.mk f d)]) fun g=>Cq.bind (ZfP c g) fun h=>Cq.ret (.inl (h,i64.wrap (a+1)))
def Zh0(f:ZE)(g:Int)(d:Int):(Int×Int×(Fin 8->Int))->Cq (Fin 8->Int):=
 Cq.loop fun h=>match h with|(b,a,c)=>if a<g then (if a<4 then (Cq.at' f.t d fun i=>Cq.chk (0<=i64.wrap (1+a)/\(i64.wrap (1+a))<5) (Cq.bind (ZhJ (getF i (i64.wrap (1+a)))) fun e=>Cq.chk ((i64.wrap (b+1))≠0) (Cq.chk (0<=a/\a<8) (Cq.chk (0<=a/\a<8) (Cq.ret (.inl (i64.wrap (b-(getF (setF c a.toNat (Int.tmod e (i64.wrap (b+1)))) a)),i64.wrap (a+1),setF c a.toNat (Int.tmod e (i64.wrap (b+1)))))))))) else (Cq.ret (.inr c))) else (Cq.ret (.inr c))
def Zh1(b:ZE)(c:Int)(d:Int)(e:(List Ze))(a:Int):Cq (((List Ze)×Int)⊕(List Ze)):=
 Cq.next (Zh0 b c a (d,0,(fun _=>0))) fun g=>match g with|f=>Zfo b e a f
def ZlP(c:ZE)(d:Int)(e:Int)(f:Int):((List Ze)×Int)->Cq (List Ze):=
 Cq.loop fun g=>match g with|(b,a)=>if a<(c.t.length:Int) then (if a<f then (Zh1 c d e b a) else (Cq.ret (.inr b))) else (Cq.ret (.inr b))
def Zio(a:ZE)(b:Int)(c:Int)(d:Int):Cq (List Ze):=
 Cq.next (ZlP a b c d ([],0)) fun f=>match f with|e=>Zfn e
def Zb3(b:Za)(c:Zw)(a:Zc):Cq Zc:=
 Cq.bind (Zio c.p (if 3<(b.vars.length:Int) then 3 else (b.vars.length:Int)) 2 3) fun d=>Cq.ret (Zc.mk a.kind a.name a.at' a.to' a.id d a.neq)
def Za1(c:Za)(b:Zw)(a:Zc):Cq Zc:=
 if a.kind=5 then (if 0<(Int.tmod b.n 4) then (Zb3 c b (Zc.mk a.kind a.name a.at' a.to' 0 a.p a.neq)) else (Zb3 c b a)) else (Zb3 c b a)
def Zdh(d:Za)(c:Zw):Cq Zc:=
 Cq.chk ((i64.wrap ((d.vars.length:Int)+1))≠0) (Cq.chk ((i64.wrap ((d.vars.length:Int)+1))≠0) (Cq.chk ((i64.wrap (d.next+1))≠0) (Cq.bind (ZjY) fun f=>Cq.at' f (Int.tmod c.n 6) fun e=>if 8<=(Int.tmod c.kind 16) then (if (Int.tmod c.a 8)<5 then (Za1 d c (Zc.mk 5 e (Int.tmod (i64.wrap c.a) (i64.wrap ((d.vars.length:Int)+1))) (Int.tmod (i64.wrap c.b) (i64.wrap ((d.vars.length:Int)+1))) (Int.tmod (i64.wrap c.n) (i64.wrap (d.next+1))) [] (decide ((Int.tmod c.b 4)=3)))) else (Za1 d c (Zc.mk (i64.wrap (5+(i64.wrap (Int.tmod c.a 4)))) e (Int.tmod (i64.wrap c.a) (i64.wrap ((d.vars.length:Int)+1))) (Int.tmod (i64.wrap c.b) (i64.wrap ((d.vars.length:Int)+1))) (Int.tmod (i64.wrap c.n) (i64.wrap (d.next+1))) [] (decide ((Int.tmod c.b 4)=3))))) else (Za1 d c (Zc.mk (i64.wrap (1+(i64.wrap (Int.tmod c.kind 16)))) e (Int.tmod (i64.wrap c.a) (i64.wrap ((d.vars.length:Int)+1))) (Int.tmod (i64.wrap c.b) (i64.wrap ((d.vars.length:Int)+1))) (Int.tmod (i64.wrap c.n) (i64.wrap (d.next+1))) [] (decide ((Int.tmod c.b 4)=3)))))))
def ZcK(a:Int):Cq Bool:=
 if 65<=a then (if a<=90 then (Cq.ret true) else (if 97<=a then (Cq.ret (decide (a<=122))) else (Cq.ret false))) else (if 97<=a then (Cq.ret (decide (a<=122))) else (Cq.ret false))
def Zfr:Cq Bool:=
 Cq.ret true
def ZlR(b:ByteArray):Int->Cq (Bool⊕Unit):=
 Cq.loop fun d=>match d with|a=>if a<(b.size:Int) then (Cq.chk (0<=(a:Int)/\a<(b.size:Int)) (Cq.bind (ZcK (byteAt b a)) fun c=>match c with|false=>(Cq.chk (0<=(a:Int)/\a<(b.size:Int)) (if 48<=(byteAt b a) then (Cq.chk (0<=(a:Int)/\a<(b.size:Int)) (if (byteAt b a)<=57 then (Cq.ret (.inl (i64.wrap (a+1)))) else (Cq.chk (0<=(a:Int)/\a<(b.size:Int)) (if ¬ (byteAt b a)=95 then (Cq.ret (.inr (.inl false))) else (Cq.ret (.inl (i64.wrap (a+1)))))))) else (Cq.chk (0<=(a:Int)/\a<(b.size:Int)) (if ¬ (byteAt b a)=95 then (Cq.ret (.inr (.inl false))) else (Cq.ret (.inl (i64.wrap (a+1))))))))|true=>(Cq.ret (.inl (i64.wrap (a+1)))))) else (Cq.ret (.inr (.inr ())))
def Zh2(b:ByteArray):Cq Bool:=
 Cq.next (ZlR b 1) fun c=>match c with | .inl a=>Cq.ret a | .inr ()=>Zfr
def Zdg(a:ByteArray):Cq Bool:=
 if (a.size:Int)<1 then (Cq.ret false) else (if 12<(a.size:Int) then (Cq.ret false) else (Cq.chk (0<=(0:Int)/\0<(a.size:Int)) (Cq.bind (ZcK (byteAt a 0)) fun b=>if (!b)=true then (Cq.ret false) else (Zh2 a))))
def Zev:Cq Int:=
 Cq.ret (-1)
def ZkW(c:Za)(a:ByteArray):Int->Cq (Int⊕Unit):=
 Cq.loop fun d=>match d with|b=>if b<(c.vars.length:Int) then (Cq.at' c.vars b fun e=>if e=a then (Cq.ret (.inr (.inl b))) else (Cq.ret (.inl (i64.wrap (b+1))))) else (Cq.ret (.inr (.inr ())))
def Ze1(c:Za)(a:ByteArray):Cq Int:=
 Cq.next (ZkW c a 0) fun d=>match d with | .inl b=>Cq.ret b | .inr ()=>Zev
def Zew(b:Za)(a:Int):Cq Bool:=
 if 0<=a then (Cq.ret (decide (a<(b.vars.length:Int)))) else (Cq.ret false)
def Zf7(a:Int):Cq Int:=
 Cq.ret (u8.wrap a)
def ZmK(c:Int):(Int×Int)->Cq Int:=
 Cq.loop fun d=>match d with|(a,b)=>if b<c then (Cq.ret (.inl (i64.wrap (2*a),i64.wrap (b+1)))) else (Cq.ret (.inr a))
def Zjy(a:Int):Cq Int:=
 Cq.next (ZmK a (1,0)) fun b=>match b with|c=>Zf7 c
def Zdc(a:Int):Cq Int:=
 Cq.ret a
def ZjB(d:(Fin 8->Int)):(Int×Int)->Cq Int:=
 Cq.loop fun e=>match e with|(b,a)=>if a<8 then (Cq.chk (0<=a/\a<8) (if 0<(getF d a) then (Cq.bind (Zjy a) fun c=>Cq.ret (.inl (u8.wrap (b+c),i64.wrap (a+1)))) else (Cq.ret (.inl (b,i64.wrap (a+1)))))) else (Cq.ret (.inr b))
def Zfm(a:(Fin 8->Int)):Cq Int:=
 Cq.next (ZjB a (0,0)) fun b=>match b with|c=>Zdc c
def Zfq(a:Int):Cq Int:=
 Cq.ret a
def ZlQ(c:(List Ze)):(Int×Int)->Cq Int:=
 Cq.loop fun e=>match e with|(a,b)=>if b<(c.length:Int) then (Cq.at' c b fun f=>Cq.bind (Zfm f.m) fun d=>Cq.ret (.inl (u8.wrap (BitVec.ofInt u8.bits a ||| BitVec.ofInt u8.bits d).toNat,i64.wrap (b+1)))) else (Cq.ret (.inr a))
def Zdf(b:(List Ze)):Cq Int:=
 Cq.next (ZlQ b (0,0)) fun c=>match c with|a=>Zfq a
def Zfw:Cq Bool:=
 Cq.ret false
def ZlV(c:Za)(a:Int):Int->Cq (Bool⊕Unit):=
 Cq.loop fun e=>match e with|b=>if b<(c.neqs.length:Int) then (Cq.at' c.neqs b fun f=>Cq.bind (Zdf f.p) fun d=>Cq.chk (0<=a) (if (Int.tmod (Int.fdiv (i64.wrap d) (2 ^ (min (a).toNat i64.bits))) 2)=1 then (Cq.ret (.inr (.inl true))) else (Cq.ret (.inl (i64.wrap (b+1)))))) else (Cq.ret (.inr (.inr ())))
def Zdx(c:Za)(a:Int):Cq Bool:=
 Cq.next (ZlV c a 0) fun d=>match d with | .inl b=>Cq.ret b | .inr ()=>Zfw
def ZlW(c:Za)(a:Int):Int->Cq (Bool⊕Unit):=
 Cq.loop fun e=>match e with|b=>if b<(c.eqs.length:Int) then (Cq.at' c.eqs b fun f=>Cq.bind (Zdf f.p) fun d=>Cq.chk (0<=a) (if (Int.tmod (Int.fdiv (i64.wrap d) (2 ^ (min (a).toNat i64.bits))) 2)=1 then (Cq.ret (.inr (.inl true))) else (Cq.ret (.inl (i64.wrap (b+1)))))) else (Cq.ret (.inr (.inr ())))
def Zir(b:Za)(a:Int):Cq Bool:=
 Cq.next (ZlW b a 0) fun d=>match d with | .inl c=>Cq.ret c | .inr ()=>Zdx b a
def Zfv:Cq Int:=
 Cq.ret (-1)
def ZlU(b:(List Zb))(c:Int):Int->Cq (Int⊕Unit):=
 Cq.loop fun d=>match d with|a=>if a<(b.length:Int) then (Cq.at' b a fun e=>if e.id=c then (Cq.ret (.inr (.inl a))) else (Cq.ret (.inl (i64.wrap (a+1))))) else (Cq.ret (.inr (.inr ())))
def Zch(c:(List Zb))(a:Int):Cq Int:=
 Cq.next (ZlU c a 0) fun d=>match d with | .inl b=>Cq.ret b | .inr ()=>Zfv
def ZhK(b:Za)(a:Int):Cq Bool:=
 Cq.bind (Zch b.eqs a) fun c=>if 0<=c then (Cq.ret true) else (Cq.bind (Zch b.neqs a) fun d=>Cq.ret (decide (0<=d)))
def ZgR(a:Zj):Cq Bool:=
 if (a.mag.length:Int)=0 then Cq.fail else (Cq.at' a.mag (i64.wrap ((a.mag.length:Int)-1)) fun b=>Cq.ret (decide (¬ b=0)))
def Zmb(a:Zj)(b:Zj):Cq Int:=
 if a.neg=true then (if (!b.neg)=true then Cq.fail else (if a.neg=true then (if a.neg=true then Cq.fail else (Cq.bind (ZaD a.mag b.mag) fun c=>Cq.ret c)) else (if b.neg=true then Cq.fail else (if a.neg=true then Cq.fail else (Cq.bind (ZaD a.mag b.mag) fun d=>Cq.ret d))))) else (if a.neg=true then (if a.neg=true then Cq.fail else (Cq.bind (ZaD a.mag b.mag) fun e=>Cq.ret e)) else (if b.neg=true then Cq.fail else (if a.neg=true then Cq.fail else (Cq.bind (ZaD a.mag b.mag) fun f=>Cq.ret f))))
def ZgT(a:Zm):Cq Bool:=
 Cq.bind (Zjv a.num a.den) fun b=>Cq.bind (ZiU 1) fun c=>Cq.bind (Zmb b c) fun d=>Cq.ret (decide (d=0))
def ZeX(a:Zm):Cq Bool:=
 Cq.bind (ZgR a.num) fun b=>match b with|false=>(Cq.ret false)|true=>(Cq.bind (ZgR a.den) fun c=>match c with|false=>(Cq.ret false)|true=>(Cq.bind (Zf4 a.den) fun d=>if d<1 then Cq.fail else (ZgT a)))
def Zer:Cq Bool:=
 Cq.ret true
def ZcH(b:(List Ze))(a:Int):Cq (Int⊕(Bool⊕Unit)):=
 if 0<a then (Cq.at' b (i64.wrap (a-1)) fun d=>Cq.at' b a fun e=>Cq.bind (ZfO d.m e.m) fun c=>if c<=0 then Cq.fail else (Cq.ret (.inl (i64.wrap (a+1))))) else (Cq.ret (.inl (i64.wrap (a+1))))
def ZkR(a:(List Ze)):Int->Cq (Bool⊕Unit):=
 Cq.loop fun g=>match g with|b=>if b<(a.length:Int) then (Cq.at' a b fun h=>Cq.bind (ZeX h.c) fun d=>match d with|false=>(Cq.ret (.inr (.inl false)))|true=>(Cq.at' a b fun i=>Cq.bind (Zcf i.c) fun e=>if e=0 then (Cq.ret (.inr (.inl false))) else (Cq.at' a b fun j=>Cq.bind (ZeY j.m) fun f=>if (!f)=true then Cq.fail else (ZcH a b)))) else (Cq.ret (.inr (.inr ())))
def ZeZ(b:(List Ze)):Cq Bool:=
 Cq.next (ZkR b 0) fun c=>match c with | .inl a=>Cq.ret a | .inr ()=>Zer
def ZdU(a:Int):Cq Int:=
 Cq.ret a
def Zkx(c:(Fin 8->Int)):(Int×Int)->Cq Int:=
 Cq.loop fun d=>match d with|(b,a)=>if a<8 then (Cq.chk (0<=a/\a<8) (Cq.ret (.inl (i64.wrap (b+(getF c a)),i64.wrap (a+1))))) else (Cq.ret (.inr b))
def Zf9(a:(Fin 8->Int)):Cq Int:=
 Cq.next (Zkx a (0,0)) fun b=>match b with|c=>ZdU c
def ZdV(a:Int):Cq Int:=
 Cq.ret a
def Zky(d:(List Ze)):(Int×Int)->Cq Int:=
 Cq.loop fun e=>match e with|(b,c)=>if c<(d.length:Int) then (Cq.at' d c fun f=>Cq.bind (Zf9 f.m) fun a=>Cq.ret (.inl (if b<a then a else b,i64.wrap (c+1)))) else (Cq.ret (.inr b))
def Zd5(a:(List Ze)):Cq Int:=
 Cq.next (Zky a ((-1),0)) fun b=>match b with|c=>ZdV c
def Zge(a:(List Ze))(b:Int):Cq Bool:=
 Cq.bind (ZeZ a) fun c=>match c with|false=>(Cq.ret false)|true=>(Cq.bind (Zdf a) fun d=>Cq.chk (0<=b) (if (Int.fdiv (i64.wrap d) (2 ^ (min (b).toNat i64.bits)))=0 then (Cq.bind (Zd5 a) fun e=>Cq.ret (decide (e<=12))) else (Cq.ret false)))
def ZI(c:Za)(a:Zc):Cq Int:=
 Cq.bind (Zge a.p (c.vars.length:Int)) fun b=>if (!b)=true then (Cq.ret 320) else (Cq.ret 0)
def ZaT(b:Za)(a:Zc):Cq Int:=
 if a.neq=true then (if a.neq=true then (if 12<=(b.neqs.length:Int) then (Cq.ret 2) else (if a.id=0 then (if 1000000<=b.next then (Cq.ret 2) else (ZI b a)) else (ZI b a))) else (if a.id=0 then (if 1000000<=b.next then (Cq.ret 2) else (ZI b a)) else (ZI b a))) else (if 12<=(b.eqs.length:Int) then (Cq.ret 2) else (if a.neq=true then (if 12<=(b.neqs.length:Int) then (Cq.ret 2) else (if a.id=0 then (if 1000000<=b.next then (Cq.ret 2) else (ZI b a)) else (ZI b a))) else (if a.id=0 then (if 1000000<=b.next then (Cq.ret 2) else (ZI b a)) else (ZI b a))))
def ZcL(b:Za)(a:Zc):Cq Int:=
 if a.id<0 then (Cq.ret 332) else (if 999999<a.id then (Cq.ret 332) else (if 0<a.id then (Cq.bind (ZhK b a.id) fun c=>if c=true then (Cq.ret 332) else (ZaT b a)) else (ZaT b a)))
def ZbR(b:Za)(c:Zc):Cq Int:=
 Cq.bind (Zch b.eqs c.id) fun a=>if c.kind=8 then (if 0<=a then (if 12<=(b.neqs.length:Int) then (Cq.ret 2) else (if 0<=a then (Cq.ret 0) else (if 12<=(b.eqs.length:Int) then (Cq.ret 2) else (Cq.ret 0)))) else (if 0<=a then (Cq.ret 0) else (if 12<=(b.eqs.length:Int) then (Cq.ret 2) else (Cq.ret 0)))) else (Cq.ret 0)
def ZbA(b:Za)(a:Zc):Cq Int:=
 Cq.bind (ZhK b a.id) fun c=>if (!c)=true then (Cq.ret 332) else (if a.kind=7 then (Cq.bind (Zge a.p (b.vars.length:Int)) fun d=>if (!d)=true then (Cq.ret 320) else (ZbR b a)) else (ZbR b a))
def Ze0(b:Za)(a:Zc):Cq Int:=
 if a.kind=1 then (if 4<=(b.vars.length:Int) then (Cq.ret 2) else (if a.at'<0 then (Cq.ret 330) else (if (b.vars.length:Int)<a.at' then (Cq.ret 330) else (Cq.bind (Zdg a.name) fun h=>match h with|false=>(Cq.ret 331)|true=>(Cq.bind (Ze1 b a.name) fun i=>if 0<=i then (Cq.ret 331) else (Cq.ret 0)))))) else (if a.kind=2 then (Cq.bind (Zew b a.at') fun j=>if (!j)=true then (Cq.ret 330) else (Cq.bind (Zir b a.at') fun k=>if k=true then (Cq.ret 333) else (Cq.ret 0))) else (if a.kind=3 then (Cq.bind (Zew b a.at') fun l=>if (!l)=true then (Cq.ret 330) else (Cq.bind (Ze1 b a.name) fun c=>Cq.bind (Zdg a.name) fun m=>match m with|false=>(Cq.ret 331)|true=>(if 0<=c then (if ¬ c=a.at' then (Cq.ret 331) else (Cq.ret 0)) else (Cq.ret 0)))) else (if a.kind=4 then (Cq.bind (Zew b a.at') fun n=>match n with|false=>(Cq.ret 330)|true=>(Cq.bind (Zew b a.to') fun o=>if (!o)=true then (Cq.ret 330) else (Cq.ret 0))) else (if a.kind=5 then (Cq.bind (ZcL b a) fun d=>Cq.ret d) else (if a.kind=6 then (if a.kind=6 then (Cq.bind (ZbA b a) fun e=>Cq.ret e) else (Cq.ret 1)) else (if a.kind=7 then (if a.kind=7 then (Cq.bind (ZbA b a) fun f=>Cq.ret f) else (Cq.ret 1)) else (if a.kind=8 then (Cq.bind (ZbA b a) fun g=>Cq.ret g) else (Cq.ret 1))))))))
def Zdj(a:Int)(b:Int)(c:(Fin 8->Int)):Cq (Fin 8->Int):=
 Cq.chk (0<=a/\a<8) (Cq.ret (setF c a.toNat b))
def ZbS(b:Int)(d:Int)(a:Int)(c:(Fin 8->Int)):Cq ((Int×(Fin 8->Int))⊕(Fin 8->Int)):=
 if a<b then (if d<=a then (Cq.chk (0<=a/\a<8) (Cq.ret (.inl (i64.wrap (a+1),setF c a.toNat (i64.wrap (a+1)))))) else (Cq.ret (.inl (i64.wrap (a+1),c)))) else (Cq.ret (.inl (i64.wrap (a+1),c)))
def ZjD(b:Int)(c:Int):(Int×(Fin 8->Int))->Cq (Fin 8->Int):=
 Cq.loop fun e=>match e with|(a,d)=>if a<8 then (Cq.chk (0<=a/\a<8) (if b<a then (if a<=c then (Cq.chk (0<=a/\a<8) (ZbS b c a (setF (setF d a.toNat a) a.toNat (i64.wrap (a-1))))) else (ZbS b c a (setF d a.toNat a))) else (ZbS b c a (setF d a.toNat a)))) else (Cq.ret (.inr d))
def ZaA(a:Int)(b:Int):Cq (Fin 8->Int):=
 Cq.next (ZjD a b (0,(fun _=>0))) fun d=>match d with|c=>Zdj a b c
def Zbk:Cq Bool:=
 Cq.ret true
def Zgd(a:(Fin 8->Int)):(Int×(Fin 8->Bool))->Cq (Bool⊕Unit):=
 Cq.loop fun d=>match d with|(b,c)=>if b<8 then (Cq.chk (0<=b/\b<8) (if (getF a b)<0 then (Cq.ret (.inr (.inl false))) else (Cq.chk (0<=b/\b<8) (if 8<=(getF a b) then (Cq.ret (.inr (.inl false))) else (Cq.chk (0<=b/\b<8) (Cq.chk (0<=getF a b/\(getF a b)<8) (if (getF c (getF a b))=true then Cq.fail else (Cq.chk (0<=b/\b<8) (Cq.chk (0<=getF a b/\(getF a b)<8) (Cq.ret (.inl (i64.wrap (b+1),setF c ((getF a b).toNat) true)))))))))))) else (Cq.ret (.inr (.inr ())))
def Zb0(a:(Fin 8->Int)):Cq Bool:=
 Cq.next (Zgd a (0,(fun _=>false))) fun c=>match c with | .inl b=>Cq.ret b | .inr ()=>Zbk
def Zdd(a:(List Ze)):Cq ((List Ze)×Int):=
 Cq.ret (a,0)
def Zde(f:(List Ze))(a:(List Ze))(b:Int)(d:(Fin 8->Int)):Cq (((List Ze)×Int)⊕(List Ze)):=
 Cq.at' f b fun g=>Cq.bind (ZfP a [(Ze.mk g.c d)]) fun e=>Cq.ret (.inl (e,i64.wrap (b+1)))
def ZfR(d:(List Ze))(b:(Fin 8->Int))(e:Int):(Int×(Fin 8->Int))->Cq (Fin 8->Int):=
 Cq.loop fun f=>match f with|(a,c)=>if a<8 then (Cq.chk (0<=a/\a<8) (Cq.at' d e fun g=>Cq.chk (0<=a/\a<8) (Cq.chk (0<=getF b a/\(getF b a)<8) (Cq.ret (.inl (i64.wrap (a+1),setF c ((getF b a).toNat) (getF g.m a))))))) else (Cq.ret (.inr c))
def ZjC(c:(List Ze))(b:(Fin 8->Int)):((List Ze)×Int)->Cq (List Ze):=
 Cq.loop fun f=>match f with|(a,d)=>if d<(c.length:Int) then (Cq.next (ZfR c b d (0,(fun _=>0))) fun g=>match g with|e=>Zde c a d e) else (Cq.ret (.inr a))
def Zfp(d:(List Ze))(a:(Fin 8->Int)):Cq ((List Ze)×Int):=
 Cq.bind (Zb0 a) fun c=>if (!c)=true then Cq.fail else (Cq.next (ZjC d a ([],0)) fun e=>match e with|b=>Zdd b)
def Zex(a:(List Zb)):Cq (List Zb):=
 Cq.ret a
def ZkX(e:(List Zb))(b:(Fin 8->Int)):((List Zb)×Int)->Cq (List Zb):=
 Cq.loop fun g=>match g with|(a,c)=>if c<(e.length:Int) then (Cq.at' e c fun h=>Cq.bind (Zfp h.p b) fun d=>Cq.at' e c fun f=>Cq.chk ((a++[(Zb.mk f.id d.1)]).length<=small) (Cq.ret (.inl ((a++[(Zb.mk f.id d.1)]),i64.wrap (c+1))))) else (Cq.ret (.inr a))
def Zbg(c:(List Zb))(a:(Fin 8->Int)):Cq (List Zb):=
 Cq.next (ZkX c a ([],0)) fun d=>match d with|b=>Zex b
def Zgf(c:Zb)(a:(List Zb))(b:Bool):Cq (List Zb):=
 if (!b)=true then (Cq.chk ((a++[c]).length<=small) (Cq.ret (a++[c]))) else (Cq.ret a)
def Zd7(d:(List Zb))(f:Zb)(c:Int)(a:(List Zb))(b:Bool):Cq (((List Zb)×Bool×Int)⊕(((List Zb)×Bool))):=
 Cq.at' d c fun g=>if ¬ g.id=f.id then (Cq.at' d c fun e=>Cq.chk ((a++[e]).length<=small) (Cq.ret (.inl ((a++[e]),b,i64.wrap (c+1))))) else (Cq.ret (.inl (a,b,i64.wrap (c+1))))
def ZmO(d:(List Zb))(c:Zb):((List Zb)×Bool×Int)->Cq (((List Zb)×Bool)):=
 Cq.loop fun f=>match f with|(b,a,e)=>if e<(d.length:Int) then (if a=true then (Zd7 d c e b a) else (Cq.at' d e fun g=>if c.id<=g.id then (Cq.chk ((b++[c]).length<=small) (Zd7 d c e (b++[c]) true)) else (Zd7 d c e b a))) else (Cq.ret (.inr (b,a)))
def Zcs(d:(List Zb))(c:Zb):Cq (List Zb):=
 Cq.next (ZmO d c ([],false,0)) fun e=>match e with|(b,a)=>Zgf c b a
def Zfu(a:(List Zb)):Cq (List Zb):=
 Cq.ret a
def ZlT(c:(List Zb))(d:Int):((List Zb)×Int)->Cq (List Zb):=
 Cq.loop fun f=>match f with|(a,b)=>if b<(c.length:Int) then (Cq.at' c b fun g=>if ¬ g.id=d then (Cq.at' c b fun e=>Cq.chk ((a++[e]).length<=small) (Cq.ret (.inl ((a++[e]),i64.wrap (b+1))))) else (Cq.ret (.inl (a,i64.wrap (b+1))))) else (Cq.ret (.inr a))
def Zdi(c:(List Zb))(b:Int):Cq (List Zb):=
 Cq.next (ZlT c b ([],0)) fun d=>match d with|a=>Zfu a
def ZaE(a:Za)(c:Zc)(b:Zb):Cq Za:=
 if c.neq=true then (Cq.bind (Zcs a.neqs b) fun d=>Cq.ret (Za.mk a.vars a.eqs d (if a.next<(i64.wrap (b.id+1)) then (i64.wrap (b.id+1)) else a.next))) else (Cq.bind (Zcs a.eqs b) fun e=>Cq.ret (Za.mk a.vars e a.neqs (if a.next<(i64.wrap (b.id+1)) then (i64.wrap (b.id+1)) else a.next)))
def ZgG(a:Za)(b:Zc):Cq Za:=
 Cq.bind (Zch a.eqs b.id) fun c=>Cq.bind (Zch a.neqs b.id) fun g=>if b.kind=5 then (if b.id=0 then (ZaE a b (Zb.mk a.next b.p)) else (ZaE a b (Zb.mk b.id b.p))) else (if b.kind=6 then (Cq.bind (Zdi a.eqs b.id) fun h=>Cq.bind (Zdi a.neqs b.id) fun i=>Cq.ret (Za.mk a.vars h i a.next)) else (if b.kind=7 then (if 0<=c then (Cq.bind (Zcs a.eqs (Zb.mk b.id b.p)) fun j=>Cq.ret (Za.mk a.vars j a.neqs a.next)) else (Cq.bind (Zcs a.neqs (Zb.mk b.id b.p)) fun k=>Cq.ret (Za.mk a.vars a.eqs k a.next))) else (if b.kind=8 then (Cq.bind (Zdi a.eqs b.id) fun l=>Cq.bind (Zdi a.neqs b.id) fun d=>if 0<=c then (Cq.at' a.eqs c fun m=>Cq.bind (Zcs a.neqs m) fun e=>Cq.ret (Za.mk a.vars l e a.next)) else (Cq.at' a.neqs g fun n=>Cq.bind (Zcs a.eqs n) fun f=>Cq.ret (Za.mk a.vars f d a.next))) else (Cq.ret a))))
def Zaa(b:Za)(a:Zc):Cq (Za×Int):=
 Cq.bind (Ze0 b a) fun d=>if ¬ d=0 then (Cq.ret ((Za.mk [] [] [] 0),d)) else (Cq.chk (([]++b.vars).length<=small) (if a.kind=1 then (Cq.chk (0<=(0:Int)/\(0:Int)<=a.at'/\a.at'<=(b.vars.length:Int)) (Cq.chk ((([]:List ByteArray)++((b.vars.take a.at'.toNat).drop (0:Int).toNat)).length<=small) (Cq.chk (((([]:List ByteArray)++((b.vars.take a.at'.toNat).drop (0:Int).toNat))++[a.name]).length<=small) (Cq.chk (0<=a.at'/\a.at'<=(b.vars.length:Int)/\(b.vars.length:Int)<=(b.vars.length:Int)) (Cq.chk ((((([]:List ByteArray)++((b.vars.take a.at'.toNat).drop (0:Int).toNat))++[a.name])++((b.vars.take (b.vars.length:Int).toNat).drop a.at'.toNat)).length<=small) (Cq.bind (ZaA (b.vars.length:Int) a.at') fun l=>Cq.bind (Zbg b.eqs l) fun m=>Cq.bind (ZaA (b.vars.length:Int) a.at') fun n=>Cq.bind (Zbg b.neqs n) fun o=>Cq.ret ((Za.mk (((([]:List ByteArray)++((b.vars.take a.at'.toNat).drop (0:Int).toNat))++[a.name])++((b.vars.take (b.vars.length:Int).toNat).drop a.at'.toNat)) m o b.next),0))))))) else (if a.kind=2 then (Cq.chk (0<=(0:Int)/\(0:Int)<=a.at'/\a.at'<=(b.vars.length:Int)) (Cq.chk ((([]:List ByteArray)++((b.vars.take a.at'.toNat).drop (0:Int).toNat)).length<=small) (Cq.chk (0<=i64.wrap (a.at'+1)/\(i64.wrap (a.at'+1))<=(b.vars.length:Int)/\(b.vars.length:Int)<=(b.vars.length:Int)) (Cq.chk (((([]:List ByteArray)++((b.vars.take a.at'.toNat).drop (0:Int).toNat))++((b.vars.take (b.vars.length:Int).toNat).drop (i64.wrap (a.at'+1)).toNat)).length<=small) (Cq.bind (ZaA a.at' (i64.wrap ((b.vars.length:Int)-1))) fun e=>Cq.bind (Zbg b.eqs e) fun f=>Cq.bind (ZaA a.at' (i64.wrap ((b.vars.length:Int)-1))) fun g=>Cq.bind (Zbg b.neqs g) fun h=>Cq.ret ((Za.mk ((([]:List ByteArray)++((b.vars.take a.at'.toNat).drop (0:Int).toNat))++((b.vars.take (b.vars.length:Int).toNat).drop (i64.wrap (a.at'+1)).toNat)) f h b.next),0)))))) else (if a.kind=3 then (Cq.at' ([]++b.vars) a.at' fun r=>Cq.ret ((Za.mk (([]++b.vars).set a.at'.toNat a.name) b.eqs b.neqs b.next),0)) else (if a.kind=4 then (Cq.bind (ZaA 0 0) fun c=>Cq.chk (0<=a.at'/\a.at'<8) (Cq.chk (0<=a.to'/\a.to'<8) (Cq.at' b.vars a.to' fun p=>Cq.at' ([]++b.vars) a.at' fun s=>Cq.at' b.vars a.at' fun q=>Cq.at' (([]++b.vars).set a.at'.toNat p) a.to' fun t=>Cq.bind (Zbg b.eqs (setF (setF c a.at'.toNat a.to') a.to'.toNat a.at')) fun i=>Cq.bind (Zbg b.neqs (setF (setF c a.at'.toNat a.to') a.to'.toNat a.at')) fun j=>Cq.ret ((Za.mk ((([]++b.vars).set a.at'.toNat p).set a.to'.toNat q) i j b.next),0)))) else (Cq.bind (ZgG b a) fun k=>Cq.ret (k,0)))))))
def Zft(a:Za):Cq Za:=
 Cq.ret a
def Zh3(e:(List Zw))(c:Int):(Int×Za)->Cq Za:=
 Cq.loop fun g=>match g with|(b,a)=>if b<(e.length:Int) then (if b<c then (Cq.at' e b fun h=>Cq.bind (Zdh a h) fun f=>Cq.bind (Zaa a f) fun d=>if d.2=0 then (Cq.ret (.inl (i64.wrap (b+1),d.1))) else (Cq.ret (.inl (i64.wrap (b+1),a)))) else (Cq.ret (.inr a))) else (Cq.ret (.inr a))
def Ziq(c:(List Zw))(a:Int):Cq Za:=
 Cq.next (Zh3 c a (0,(Za.mk [] [] [] 1))) fun d=>match d with|b=>Zft b
def Zd6(a:(List Ze))(b:Int):Cq Bool:=
 Cq.bind (ZeZ a) fun c=>match c with|false=>(Cq.ret false)|true=>(Cq.bind (Zd5 a) fun d=>if d<=12 then (Cq.bind (Zdf a) fun e=>Cq.chk (0<=(u64.wrap b)) (Cq.ret (decide ((i64.wrap e)<(i64.wrap (1*2 ^ (min (u64.wrap b).toNat i64.bits))))))) else (Cq.ret false))
def Zfs:Cq Bool:=
 Cq.ret true
def ZlS(b:(List Zb))(d:Int)(c:Int):Int->Cq (Bool⊕Unit):=
 Cq.loop fun g=>match g with|a=>if a<(b.length:Int) then (Cq.at' b a fun h=>if h.id<1 then (Cq.ret (.inr (.inl false))) else (Cq.at' b a fun i=>if c<=i.id then (Cq.ret (.inr (.inl false))) else (if 0<a then (Cq.at' b (i64.wrap (a-1)) fun j=>Cq.at' b a fun k=>if k.id<=j.id then (Cq.ret (.inr (.inl false))) else (Cq.at' b a fun l=>Cq.bind (Zd6 l.p d) fun e=>if (!e)=true then (Cq.ret (.inr (.inl false))) else (Cq.ret (.inl (i64.wrap (a+1)))))) else (Cq.at' b a fun m=>Cq.bind (Zd6 m.p d) fun f=>if (!f)=true then (Cq.ret (.inr (.inl false))) else (Cq.ret (.inl (i64.wrap (a+1)))))))) else (Cq.ret (.inr (.inr ())))
def Zcg(b:(List Zb))(d:Int)(a:Int):Cq Bool:=
 if 12<(b.length:Int) then (Cq.ret false) else (Cq.next (ZlS b d a 0) fun e=>match e with | .inl c=>Cq.ret c | .inr ()=>Zfs)
def Zes:Cq Bool:=
 Cq.ret true
def Zet(a:Int):Cq (Int⊕(Bool⊕Unit)):=
 Cq.ret (.inl (i64.wrap (a+1)))
def ZkT(a:Za)(c:Int):Int->Cq (Bool⊕Unit):=
 Cq.loop fun d=>match d with|b=>if b<(a.neqs.length:Int) then (Cq.at' a.eqs c fun e=>Cq.at' a.neqs b fun f=>if e.id=f.id then (Cq.ret (.inr (.inl false))) else (Cq.ret (.inl (i64.wrap (b+1))))) else (Cq.ret (.inr (.inr ())))
def ZkS(b:Za):Int->Cq (Bool⊕Unit):=
 Cq.loop fun d=>match d with|a=>if a<(b.eqs.length:Int) then (Cq.next (ZkT b a 0) fun e=>match e with | .inl c=>Cq.ret (.inr (.inl c)) | .inr ()=>Zet a) else (Cq.ret (.inr (.inr ())))
def ZcI(a:Za):Cq Bool:=
 Cq.next (ZkS a 0) fun c=>match c with | .inl b=>Cq.ret b | .inr ()=>Zes
def ZcJ(b:Za)(a:Int):Cq (Int⊕(Bool⊕Unit)):=
 Cq.at' b.vars a fun d=>Cq.bind (Zdg d) fun c=>if (!c)=true then (Cq.ret (.inr (.inl false))) else (Cq.ret (.inl (i64.wrap (a+1))))
def ZkV(b:Za)(c:Int):Int->Cq (Bool⊕Unit):=
 Cq.loop fun d=>match d with|a=>if a<c then (Cq.at' b.vars c fun e=>Cq.at' b.vars a fun f=>if e=f then (Cq.ret (.inr (.inl false))) else (Cq.ret (.inl (i64.wrap (a+1))))) else (Cq.ret (.inr (.inr ())))
def ZkU(a:Za):Int->Cq (Bool⊕Unit):=
 Cq.loop fun d=>match d with|b=>if b<(a.vars.length:Int) then (Cq.next (ZkV a b 0) fun e=>match e with | .inl c=>Cq.ret (.inr (.inl c)) | .inr ()=>ZcJ a b) else (Cq.ret (.inr (.inr ())))
def ZgW(a:Za):Cq Bool:=
 Cq.next (ZkU a 0) fun c=>match c with | .inl b=>Cq.ret b | .inr ()=>ZcI a
def ZaS(a:Za):Cq Bool:=
 if 4<(a.vars.length:Int) then (Cq.ret false) else (if a.next<1 then (Cq.ret false) else (if 1000000<a.next then (Cq.ret false) else (Cq.bind (Zcg a.eqs (a.vars.length:Int) a.next) fun b=>match b with|false=>(Cq.ret false)|true=>(Cq.bind (Zcg a.neqs (a.vars.length:Int) a.next) fun c=>if (!c)=true then (Cq.ret false) else (ZgW a)))))
def ZjE(a:Za):Cq (Zg×Int):=
 Cq.bind (ZaS a) fun b=>if (!b)=true then (Cq.ret ((Zg.mk (Za.mk [] [] [] 0) []),320)) else (Cq.ret ((Zg.mk a [(Zf.mk (-1) (-1) [])]),0))
def ZhL(a:Zg)(b:Int):Cq Bool:=
 if 0<=b then (Cq.ret (decide (b<(a.v.length:Int)))) else (Cq.ret false)
def ZgX(b:(List Zc))(a:Za):Cq Zx:=
 Cq.ret (Zx.mk a (b.length:Int) 0)
def Znq(e:(List Zc)):(Int×Za×Zx)->Cq (Zx⊕(Za×Zx)):=
 Cq.loop fun f=>match f with|(b,c,d)=>if b<(e.length:Int) then (Cq.at' e b fun g=>Cq.bind (Zaa c g) fun a=>if ¬ a.2=0 then (Cq.ret (.inr (.inl (Zx.mk (Za.mk [] [] [] 0) b a.2)))) else (Cq.ret (.inl (i64.wrap (b+1),a.1,d)))) else (Cq.ret (.inr (.inr (c,d))))
def Zi0(d:Za)(a:(List Zc)):Cq Zx:=
 Cq.next (Znq a (0,d,(Zx.mk (Za.mk [] [] [] 0) 0 0))) fun e=>match e with | .inl b=>Cq.ret b | .inr (c,f)=>ZgX a c
def Zdk(a:(List Za)):Cq ((List Za)×Bool):=
 Cq.ret (a,true)
def ZfS(a:(List Za))(c:Int)(d:Zf):Cq (((List Za)×Int)⊕(((List Za)×Bool)⊕(List Za))):=
 Cq.at' a d.parent fun f=>Cq.bind (Zi0 f d.e) fun b=>if ¬ b.e=0 then (Cq.ret (.inr (.inl ([],false)))) else (Cq.chk ((a++[b.s]).length<=small) (Cq.ret (.inl ((a++[b.s]),i64.wrap (c+1)))))
def ZjF(c:Zg):((List Za)×Int)->Cq (((List Za)×Bool)⊕(List Za)):=
 Cq.loop fun f=>match f with|(d,a)=>if a<(c.v.length:Int) then (Cq.at' c.v a fun b=>if b.parent<0 then (Cq.ret (.inr (.inl ([],false)))) else (if a<=b.parent then (Cq.ret (.inr (.inl ([],false)))) else (if b.other<(-1) then (Cq.ret (.inr (.inl ([],false)))) else (if a<=b.other then (Cq.ret (.inr (.inl ([],false)))) else (if 64<(b.e.length:Int) then (Cq.ret (.inr (.inl ([],false)))) else (ZfS d a b)))))) else (Cq.ret (.inr (.inr d)))
def Zb4(a:Zg):Cq ((List Za)×Bool):=
 Cq.next (ZjF a ([a.root],1)) fun d=>match d with | .inl c=>Cq.ret c | .inr b=>Zdk b
def Zg2(a:Zg)(b:Int):Cq (Za×Int):=
 Cq.bind (ZhL a b) fun c=>if (!c)=true then (Cq.ret ((Za.mk [] [] [] 0),340)) else (Cq.bind (Zb4 a) fun d=>Cq.at' d.1 b fun e=>Cq.ret (e,0))
def Zeu(a:(List Zc)):Cq (List Zc):=
 Cq.ret a
def Zg0(f:(List Zw))(a:(List Zc))(e:Int)(b:Za):Cq (((List Zc)×Int×Za)⊕(List Zc)):=
 Cq.at' f e fun g=>Cq.bind (Zdh b g) fun c=>Cq.bind (Zaa b c) fun d=>if d.2=0 then (Cq.chk ((a++[c]).length<=small) (Cq.ret (.inl ((a++[c]),i64.wrap (e+1),d.1)))) else (Cq.ret (.inl (a,i64.wrap (e+1),b)))
def ZgZ(d:(List Zw))(b:Int):((List Zc)×Int×Za)->Cq (List Zc):=
 Cq.loop fun f=>match f with|(a,c,e)=>if c<(d.length:Int) then (if c<b then (Zg0 d a c e) else (Cq.ret (.inr a))) else (Cq.ret (.inr a))
def ZgY(c:Za)(d:(List Zw))(a:Int):Cq (List Zc):=
 Cq.next (ZgZ d a ([],0,c)) fun e=>match e with|b=>Zeu b
def ZgH(a:Zg)(c:Int)(d:Int)(b:(List Zc)):Cq ZR:=
 Cq.bind (Zg2 a c) fun g=>Cq.bind (Zi0 g.1 b) fun f=>if ¬ f.e=0 then (Cq.ret (ZR.mk (Zg.mk (Za.mk [] [] [] 0) []) 0 f.e)) else (Cq.chk ((([]:List Zf)++a.v).length<=small) (Cq.chk ((([]:List Zc)++b).length<=small) (Cq.chk (((([]:List Zf)++a.v)++[(Zf.mk c d (([]:List Zc)++b))]).length<=small) (Cq.ret (ZR.mk (Zg.mk a.root ((([]:List Zf)++a.v)++[(Zf.mk c d (([]:List Zc)++b))])) (a.v.length:Int) 0)))))
def Zgg(a:Zg)(b:Int)(d:Int)(c:(List Zc)):Cq ZR:=
 Cq.bind (ZhL a b) fun e=>if (!e)=true then (Cq.ret (ZR.mk (Zg.mk (Za.mk [] [] [] 0) []) 0 340)) else (if 200<=(a.v.length:Int) then (Cq.ret (ZR.mk (Zg.mk (Za.mk [] [] [] 0) []) 0 2)) else (if 64<(c.length:Int) then (Cq.ret (ZR.mk (Zg.mk (Za.mk [] [] [] 0) []) 0 2)) else (ZgH a b d c)))
def Zfx(a:Zg):Cq Zg:=
 Cq.ret a
def ZbB(c:ZF)(b:Int)(a:Zg)(e:ZaF)(d:Int):Cq ((Int×Zg)⊕Zg):=
 Cq.bind (Zg2 a (Int.tmod (i64.wrap e.at') (a.v.length:Int))) fun f=>Cq.at' c.v b fun j=>Cq.bind (ZgY f.1 j.l 3) fun g=>Cq.bind (Zgg a (Int.tmod (i64.wrap e.at') (a.v.length:Int)) d g) fun i=>Cq.ret (.inl (i64.wrap (b+1),i.h))
def Zh4(a:ZF)(b:Int)(c:Zg):Cq ((Int×Zg)⊕Zg):=
 Cq.at' a.v b fun d=>Cq.chk ((c.v.length:Int)≠0) (Cq.at' a.v b fun e=>if (Int.tmod e.other 4)=3 then (Cq.at' a.v b fun f=>Cq.chk ((c.v.length:Int)≠0) (ZbB a b c d (Int.tmod (i64.wrap (u8.wrap (Int.tdiv f.other 4))) (c.v.length:Int)))) else (ZbB a b c d (-1)))
def Zdy(b:ZF)(d:Int):(Int×Zg)->Cq Zg:=
 Cq.loop fun e=>match e with|(a,c)=>if a<(b.v.length:Int) then (if a<d then (Zh4 b a c) else (Cq.ret (.inr c))) else (Cq.ret (.inr c))
def Zis(a:ZF)(b:Int):Cq Zg:=
 Cq.bind (Ziq a.s 6) fun c=>Cq.bind (ZjE c) fun d=>Cq.next (Zdy a b (0,d.1)) fun f=>match f with|e=>Zfx e
def Zfk:Cq Bool:=
 Cq.ret true
def ZlL(b:Zj)(c:Zj):Int->Cq (Bool⊕Unit):=
 Cq.loop fun d=>match d with|a=>if a<(b.mag.length:Int) then (Cq.at' b.mag a fun e=>Cq.at' c.mag a fun f=>if ¬ e=f then Cq.fail else (Cq.ret (.inl (i64.wrap (a+1))))) else (Cq.ret (.inr (.inr ())))
def Zin(a:Zj)(b:Zj):Cq Bool:=
 if ¬ a.neg=b.neg then (Cq.ret false) else (if ¬ (a.mag.length:Int)=(b.mag.length:Int) then Cq.fail else (Cq.next (ZlL a b 0) fun d=>match d with | .inl c=>Cq.ret c | .inr ()=>Zfk))
def Zoo(a:Zm)(b:Zm):Cq Bool:=
 Cq.bind (Zin a.num b.num) fun c=>match c with|false=>(Cq.ret false)|true=>(Cq.bind (Zin a.den b.den) fun d=>Cq.ret d)
def ZiG(c:(List Zw))(e:Za×Int):((List Zc)×Int)->Cq (List Zc):=
 Cq.loop fun f=>match f with|(a,b)=>if b<(c.length:Int) then (if b<3 then (Cq.at' c b fun g=>Cq.bind (Zdh e.1 g) fun d=>Cq.chk ((a++[d]).length<=small) (Cq.ret (.inl ((a++[d]),i64.wrap (b+1))))) else (Cq.ret (.inr a))) else (Cq.ret (.inr a))
def Zdn(a:Za)(b:(List Zf)):Cq Zg:=
 Cq.ret (Zg.mk a b)
def ZjL(c:Int):(Za×(List Zf))->Cq ((Za×(List Zf))):=
 Cq.loop fun d=>match d with|(a,b)=>if (b.length:Int)<(i64.wrap (199+(i64.wrap (Int.tmod c 4)))) then (Cq.chk ((b++[(Zf.mk 0 (-1) [])]).length<=small) (Cq.ret (.inl (a,(b++[(Zf.mk 0 (-1) [])]))))) else (Cq.ret (.inr (a,b)))
def Zb6(a:Zg)(c:Int)(b:Int)(d:Int):Cq Zg:=
 Cq.chk ((([]:List Zf)++a.v).length<=small) (Cq.chk (((([]:List Zf)++a.v).length:Int)≠0) (if (Int.tmod c 8)=1 then (Cq.at' (([]:List Zf)++a.v) (Int.tmod (i64.wrap b) ((([]:List Zf)++a.v).length:Int)) fun j=>Cq.ret (Zg.mk a.root ((([]:List Zf)++a.v).set (Int.tmod (i64.wrap b) ((([]:List Zf)++a.v).length:Int)).toNat (Zf.mk d j.other j.e)))) else (if (Int.tmod c 8)=2 then (Cq.at' (([]:List Zf)++a.v) (Int.tmod (i64.wrap b) ((([]:List Zf)++a.v).length:Int)) fun k=>Cq.ret (Zg.mk a.root ((([]:List Zf)++a.v).set (Int.tmod (i64.wrap b) ((([]:List Zf)++a.v).length:Int)).toNat (Zf.mk k.parent d k.e)))) else (if (Int.tmod c 8)=3 then (Cq.at' (([]:List Zf)++a.v) (Int.tmod (i64.wrap b) ((([]:List Zf)++a.v).length:Int)) fun h=>Cq.chk ((([]:List Zc)++h.e).length<=small) (Cq.chk (((([]:List Zc)++h.e)++[(Zc.mk (Int.tmod d 10) Zr 0 0 1 [] false)]).length<=small) (Cq.at' (([]:List Zf)++a.v) (Int.tmod (i64.wrap b) ((([]:List Zf)++a.v).length:Int)) fun l=>Cq.ret (Zg.mk a.root ((([]:List Zf)++a.v).set (Int.tmod (i64.wrap b) ((([]:List Zf)++a.v).length:Int)).toNat (Zf.mk l.parent l.other ((([]:List Zc)++h.e)++[(Zc.mk (Int.tmod d 10) Zr 0 0 1 [] false)]))))))) else (if (Int.tmod c 8)=4 then (Cq.at' (([]:List Zf)++a.v) (Int.tmod (i64.wrap b) ((([]:List Zf)++a.v).length:Int)) fun n=>if 0<(n.e.length:Int) then (Cq.at' (([]:List Zf)++a.v) (Int.tmod (i64.wrap b) ((([]:List Zf)++a.v).length:Int)) fun g=>Cq.chk (0<=(1:Int)/\(1:Int)<=(g.e.length:Int)/\(g.e.length:Int)<=(g.e.length:Int)) (Cq.at' (([]:List Zf)++a.v) (Int.tmod (i64.wrap b) ((([]:List Zf)++a.v).length:Int)) fun m=>Cq.ret (Zg.mk a.root ((([]:List Zf)++a.v).set (Int.tmod (i64.wrap b) ((([]:List Zf)++a.v).length:Int)).toNat (Zf.mk m.parent m.other ((g.e.take (g.e.length:Int).toNat).drop (1:Int).toNat)))))) else (Cq.ret (Zg.mk a.root (([]:List Zf)++a.v)))) else (if (Int.tmod c 8)=5 then (Cq.chk (0<=(Int.tmod (i64.wrap b) ((([]:List Zf)++a.v).length:Int))/\(Int.tmod (i64.wrap b) ((([]:List Zf)++a.v).length:Int))<((([]:List Zf)++a.v).length:Int)/\((([]:List Zf)++a.v).length:Int)<1000000) (Cq.ret (Zg.mk a.root ((([]:List Zf)++a.v).take (Int.tmod (i64.wrap b) ((([]:List Zf)++a.v).length:Int)).toNat++(([]:List Zf)++a.v).drop ((Int.tmod (i64.wrap b) ((([]:List Zf)++a.v).length:Int)).toNat+1))))) else (if (Int.tmod c 8)=6 then (Cq.ret (Zg.mk (Za.mk a.root.vars a.root.eqs a.root.neqs d) (([]:List Zf)++a.v))) else (if (Int.tmod c 8)=7 then (Cq.next (ZjL b (a.root,(([]:List Zf)++a.v))) fun o=>match o with|(f,i)=>Zdn f i) else (Cq.ret (Zg.mk a.root (([]:List Zf)++a.v)))))))))))
def Zg3(a:Zg):Cq Bool:=
 Cq.bind (Zb4 a) fun b=>Cq.ret b.2
def Zg4(a:Zg):Cq Bool:=
 Cq.at' a.v 0 fun b=>if ¬ b.parent=(-1) then (Cq.ret false) else (Cq.at' a.v 0 fun c=>if ¬ c.other=(-1) then (Cq.ret false) else (Cq.at' a.v 0 fun d=>if 0<(d.e.length:Int) then (Cq.ret false) else (Zg3 a)))
def ZdI(a:Zg):Cq Bool:=
 Cq.bind (ZaS a.root) fun b=>match b with|false=>(Cq.ret false)|true=>(if (a.v.length:Int)<1 then (Cq.ret false) else (if 200<(a.v.length:Int) then (Cq.ret false) else (Zg4 a)))
def Zba(d:Bool)(e:Zg)(a:(List Zc))(c:Za×Int):Cq Bool:=
 Cq.bind (Zap e 0 a) fun b=>if d=true then (if (a.length:Int)<=64 then (if 64<(a.length:Int) then (Cq.ret true) else (Cq.ret (decide ((decide (b.2.2=0))=(decide (0<(c.1.vars.length:Int))))))) else (if b.2.2=2 then (if 64<(a.length:Int) then (Cq.ret true) else (Cq.ret (decide ((decide (b.2.2=0))=(decide (0<(c.1.vars.length:Int))))))) else (Cq.ret false))) else (Cq.ret false)
def Zau(b:Bool)(f:Zg)(c:Zg)(d:(List Zc))(g:Za×Int)(e:Bool):Cq Bool:=
 if e=true then (Cq.bind (Zap (Zg.mk c.root c.v) 0 []) fun a=>if (c.v.length:Int)=200 then (if b=true then (if a.2.2=2 then (if a.2.1=0 then (Cq.ret (decide ((a.1.v.length:Int)=0))) else (Cq.ret false)) else (Cq.ret false)) else (Cq.ret false)) else (if b=true then (if a.2.2=0 then (if a.2.1=199 then (Cq.ret (decide ((a.1.v.length:Int)=200))) else (Cq.ret false)) else (Cq.ret false)) else (Cq.ret false))) else (Zba b f d g)
def Zcz(c:Bool)(d:Zg)(a:Zg)(b:(List Zc))(e:Za×Int):Cq Bool:=
 Cq.bind (ZdI (Zg.mk a.root a.v)) fun f=>match f with|false=>(Zau c d a b e false)|true=>(Zau c d a b e (decide (199<=(a.v.length:Int))))
def Zav(i:Bool)(d:Zg)(b:Zg)(c:Zg)(a:(List Zc)):Cq Bool:=
 Cq.bind (Zg2 d 0) fun j=>Cq.chk ((c.v++[(Zf.mk 0 (-1) a)]).length<=small) (Cq.bind (ZO (Zg.mk b.root b.v)) fun k=>Cq.bind (ZdI (Zg.mk b.root b.v)) fun e=>if ¬ k=e then (Cq.ret false) else (Cq.bind (ZO (Zg.mk c.root (c.v++[(Zf.mk 0 (-1) a)]))) fun f=>Cq.bind (ZdI (Zg.mk c.root (c.v++[(Zf.mk 0 (-1) a)]))) fun g=>if ¬ f=g then (Cq.ret false) else (Cq.bind (ZO (Zg.mk (Za.mk [] [] [] 0) [])) fun h=>if h=true then (Cq.ret false) else (Zcz i d b a j))))
def Zcy(c:(Fin 2->Int)):((List Zc)×Int)->Cq (List Zc):=
 Cq.loop fun d=>match d with|(a,b)=>if b<(i64.wrap (60+(i64.wrap (Int.tmod (getF c 1) 8)))) then (Cq.chk ((a++[(Zc.mk 4 ByteArray.empty 0 0 0 [] false)]).length<=small) (Cq.ret (.inl ((a++[(Zc.mk 4 ByteArray.empty 0 0 0 [] false)]),i64.wrap (b+1))))) else (Cq.ret (.inr a))
def ZdK(e:ZF)(a:(Fin 2->Int))(f:Int):Cq Bool:=
 Cq.bind (ZeH) fun d=>if (!d)=true then (Cq.ret false) else (Cq.bind (Zis e 6) fun b=>Cq.bind (Zb6 b (getF a 0) (getF a 1) f) fun g=>Cq.bind (Zb6 b 1 1 0) fun h=>Cq.next (Zcy a ([],0)) fun i=>match i with|c=>Zav d b g h c)
end Go.EL

namespace Go.EL
open Go.IntKind (i8 i16 i32 i64 u8 u16 u32 u64)
open Go
namespace Cq
open Go.IntKind (i8 i16 i32 i64 u8 u16 u32 u64)
variable {α β σ ρ:Type}
theorem wp_ret{a:α}{p:α->Prop}:(Cq.ret a).wp p↔p a:=Iff.rfl
theorem Zd{q:Prop}[Decidable q]{c d:Cq α}{p:α->Prop}:(if q then c else d).wp p↔if q then c.wp p else d.wp p:=by split <;> rfl
theorem Zo7{A:σ->Prop}{Φ:ρ->Prop}{s:σ}:Out A Φ (.inl s)↔A s:=Iff.rfl
theorem Ret.then{c:Cq α}{a:α}(h:c.Ret a){p:α->Prop}(hp:p a):c.wp p:=c.mono (fun b e=>by rw[e]; exact hp) h
end Cq
theorem wrap64{x:Int}(h:-9223372036854775808<=x/\x<=9223372036854775807):i64.wrap x=x:=IntWalk.i64_in _ h
theorem getF8{a:Fin 8->Int}{i:Int}(h:0<=i/\i<8):getF a i=a ⟨i.toNat,by omega⟩:=ZfV a (by omega)
end Go.EL
namespace Go.EL
open Go.IntKind (i8 i16 i32 i64 u8 u16 u32 u64)
open Go
theorem ZeL(a b:M):(ZbL a b).Ret (cmpM a b):=by
 unfold ZbL
 by_cases h:a=b
 .rw[if_pos h]
  subst h
  exact (Zha a).symm
 rw[if_neg h]
 have hne:∀ k:Nat,k<=8->(∀ j:Fin 8,j.val<k->a j=b j)->k<8:=fun k hk hj=>by
  rcases Nat.lt_or_ge k 8 with h1|h1
  .exact h1
  exact absurd (funext fun j=>hj j (by omega)) h
 refine Cq.ZeJ (I:=fun i:Int=>0<=i/\i<8/\∀ j:Fin 8,(j.val:Int)<i->a j=b j) (m:=fun i=>(8-i).toNat) (fun i hi=>?_) 0 ⟨by omega,by omega,fun j hj=>by omega⟩
 obtain⟨h0,h8,hj⟩:=hi
 refine⟨⟨h0,h8⟩,⟨h0,h8⟩,?_⟩
 rw[Cq.Zd,getF8 ⟨h0,h8⟩,getF8 ⟨h0,h8⟩]
 split
 .rename_i e
  have hj':∀ j:Fin 8,(j.val:Int)<i+1->a j=b j:=fun j hj1=>by
   by_cases h2:(j.val:Int)<i
   .exact hj j h2
   have:j=⟨i.toNat,by omega⟩:=Fin.ext (by simp; omega)
   rw[this]; exact e
  have:=hne (i+1).toNat (by omega) (fun j hj1=>hj' j (by omega))
  rw[Cq.wp_ret,Cq.Zo7,wrap64 (by omega)]
  exact⟨⟨by omega,by omega,hj'⟩,by omega⟩
 rename_i e
 refine⟨⟨h0,h8⟩,⟨h0,h8⟩,?_⟩
 rw[Cq.Zd,getF8 ⟨h0,h8⟩,getF8 ⟨h0,h8⟩]
 have hk:i.toNat<8:=by omega
 split
 .rename_i e2
  exact (Zmg a b hk (fun j hj1=>hj j (by omega)) e2).symm
 rename_i e2
 exact (Zmf a b hk (fun j hj1=>hj j (by omega)) (by omega)).symm
end Go.EL

namespace Go.EL
open Go.IntKind (i8 i16 i32 i64 u8 u16 u32 u64)
open Go
instance decInt:DecidableEq Zj:=fun ⟨a1,a2⟩ ⟨b1,b2⟩=>decidable_of_iff (a1=b1/\a2=b2) (by simp)
instance decRat:DecidableEq Zm:=fun ⟨a1,a2⟩ ⟨b1,b2⟩=>decidable_of_iff (a1=b1/\a2=b2) (by simp)
def ratI(n:Int):Zm:=⟨⟨decide (n<0),if n=0 then [] else [(n.natAbs:Int)]⟩,⟨false,[1]⟩⟩
def between(l h:Int)(p:Int->Bool):Bool:=(List.range (h-l+1).toNat).all fun k=>p (l+(k:Int))
theorem Z4{l h:Int}{p:Int->Bool}(hb:between l h p=true){x:Int}(h1:l<=x)(h2:x<=h):p x=true:=by
 have:=List.all_eq_true.1 hb (x-l).toNat (List.mem_range.2 (by omega))
 rwa [show l+((x-l).toNat:Int)=x by omega] at this
def runs{α:Type}[DecidableEq α](n:Nat)(c:Cq α)(a:α):Bool:=decide (c.ev n=some a)
theorem Za5{α:Type}[DecidableEq α]{n:Nat}{c:Cq α}{a:α}(h:runs n c a=true):c.Ret a:=Cq.Ret.Zm3 n (of_decide_eq_true h)
theorem Zoi:(between (-8) 8 fun n=>runs 20 (ZdH n) (ratI n))=true:=by decide +kernel
theorem Zo9:(between (-12) 12 fun a=>between (-3) 3 fun b=>runs 30 (ZhI (ratI a) (ratI b)) (ratI (a+b)))=true:=by decide +kernel
theorem Zpw:(between (-3) 3 fun a=>runs 30 (Zjx (ratI a) (ratI 1)) (ratI a))=true:=by decide +kernel
theorem ZiN:(between (-15) 15 fun a=>runs 30 (Zcf (ratI a)) (if a<0 then -1 else if a=0 then 0 else 1))=true:=by decide +kernel
theorem Zog:(between (-15) 15 fun a=>a == 0 || runs 30 (ZeX (ratI a)) true)=true:=by decide +kernel
theorem ZnX:(between (-12) 12 fun a=>a == 0 || runs 30 (Zby (ratI a)) (if a<0 then -1 else if a=0 then 0 else 1))=true:=by decide +kernel
theorem Znd:(between (-12) 12 fun a=>a == 0 || runs 30 (ZbX (ratI a)) true)=true:=by decide +kernel
end Go.EL

namespace Go.EL
open Go.IntKind (i8 i16 i32 i64 u8 u16 u32 u64)
open Go Go.RowKit
instance inhM:Inhabited M:=⟨fun _=>0⟩
def mixM(k:Nat)(f a:M):M:=fun i=>if i.val<k then f i else a i
theorem ZoJ{k:Nat}(f a:M)(h:k<8):setF (mixM k f a) k (f ⟨k,h⟩)=mixM (k+1) f a:=by
 funext i; unfold setF mixM
 by_cases e:i.val=k
 .have:i=⟨k,h⟩:=Fin.ext e
  subst this; simp
 have e1:(i.val<k+1)=(i.val<k):=by apply propext; omega
 simp[e,e1]
theorem Zp8{k:Nat}(f a:M)(h:k<8):mixM k f a ⟨k,h⟩=a ⟨k,h⟩:=by unfold mixM; simp
theorem ZoK(f a:M):mixM 0 f a=a:=by funext i; simp[mixM]
theorem Zpv{k:Nat}(f a:M)(h:¬ k<8):mixM k f a=f:=by
 funext i
 have:i.val<k:=by omega
 simp[mixM,this]
theorem Zor{p:Fin 8->Prop}{k:Nat}(hall:∀ i:Fin 8,i.val<k->p i)(h:k<8)(hk:p ⟨k,h⟩):∀ i:Fin 8,i.val<k+1->p i:=fun i hi=>by
 by_cases e:i.val=k
 .have:i=⟨k,h⟩:=Fin.ext e
  rw[this]; exact hk
 exact hall i (by omega)
def Ok(a:M):Prop:=∀ i,0<=a i/\a i<=65535
instance decOk (a:M):Decidable (Ok a):=inferInstanceAs (Decidable (∀ i,0<=a i/\a i<=65535))
def p2:Nat->Int
 | 0=>1
 | k+1=>2*p2 k
theorem Zqh:∀ {k:Nat},k<=8->1<=p2 k/\p2 k<=256
 | 0,_=>by decide
 | 1,_=>by decide
 | 2,_=>by decide
 | 3,_=>by decide
 | 4,_=>by decide
 | 5,_=>by decide
 | 6,_=>by decide
 | 7,_=>by decide
 | 8,_=>by decide
 | k+9,h=>by omega
theorem ZkI{k:Nat}(h:k<8):1<=p2 k/\p2 k<=128:=by
 have:=Zqh (k:=k+1) (by omega)
 simp only[p2] at this
 omega
theorem Zlj{k:Nat}(h:k<8):u8.wrap (1*2 ^ (min (k:Int).toNat u8.bits))=p2 k:=by
 match k,h with
 | 0,_=>decide|1,_=>decide|2,_=>decide|3,_=>decide|4,_=>decide|5,_=>decide|6,_=>decide|7,_=>decide
theorem ZpA{k:Nat}(h:k<8):u8.wrap (p2 k)=p2 k:=by
 match k,h with
 | 0,_=>decide|1,_=>decide|2,_=>decide|3,_=>decide|4,_=>decide|5,_=>decide|6,_=>decide|7,_=>decide
def suppTo(a:M):Nat->Int
 | 0=>0
 | k+1=>suppTo a k+(if h:k<8 then (if 0<a ⟨k,h⟩ then p2 k else 0) else 0)
def suppM(a:M):Int:=suppTo a 8
theorem ZdP(a:M):∀ k:Nat,0<=suppTo a k/\suppTo a k<p2 k
 | 0=>by simp[suppTo,p2]
 | k+1=>by
  have ih:=ZdP a k
  simp only[suppTo,p2]
  split
  .split <;> omega
  omega
theorem Zjm(a:M){k:Nat}(h:k<8)(ha:0<a ⟨k,h⟩):suppTo a k+p2 k=suppTo a (k+1):=by simp[suppTo,h,ha]
theorem Zkm(a:M){k:Nat}(h:k<8)(ha:¬ 0<a ⟨k,h⟩):suppTo a k=suppTo a (k+1):=by simp[suppTo,h,ha]
theorem ZnU:∀ k:Fin 8,∀ s:Fin 128,s.val<2 ^ k.val->u8.wrap (BitVec.ofInt u8.bits (s.val:Int) ||| BitVec.ofInt u8.bits (p2 k.val)).toNat=s.val+p2 k.val:=by decide +kernel
theorem ZdO:∀ k:Nat,p2 k=((2 ^ k:Nat):Int)
 | 0=>rfl
 | k+1=>by rw[p2,ZdO k,Nat.pow_succ]; omega
theorem Zqg{k:Nat}(h:k<8){s:Int}(h0:0<=s)(h1:s<p2 k):u8.wrap (BitVec.ofInt u8.bits s ||| BitVec.ofInt u8.bits (p2 k)).toNat=s+p2 k:=by
 obtain⟨n,rfl⟩:=Int.eq_ofNat_of_zero_le h0
 have h2:=ZkI h
 rw[ZdO] at h1
 exact ZnU ⟨k,h⟩ ⟨n,by rw[ZdO] at h2; omega⟩ (by simp; omega)
theorem ZpF{k:Nat}(h:k<8){s:Int}(h0:0<=s)(h1:s<p2 k):u8.wrap (s+p2 k)=s+p2 k:=by
 have h2:=ZkI h
 simp only[IntKind.wrap,IntKind.bits,IntKind.signed,Bool.false_and,Bool.false_eq_true,if_false]
 omega
theorem Cq.Zk{σ ρ:Type}{step:σ->Cq (σ⊕ρ)}{Φ:ρ->Prop}(n:Nat)(I:Nat->σ->Prop)(h:∀ k s,k<n->I k s->(step s).wp (Out (fun s'=>I (k+1) s') Φ))(hend:∀ s,I n s->(step s).wp (Out (fun _=>False) Φ)):
  ∀ {s:σ},I 0 s->(Cq.loop step s).wp Φ:=by
 have key:∀ d k s,k+d=n->I k s->(Cq.loop step s).wp Φ:=by
  intro d
  induction d with
  | zero=>intro k s hk hs; rw[Nat.add_zero] at hk; subst hk; exact Cq.ZW ((step s).mono (Out.mono (fun _ h=>h.elim) (fun _ x=>x)) (hend s hs))
  | succ d ih=>intro k s hk hs; exact Cq.ZW ((step s).mono (Out.mono (fun s' h'=>ih (k+1) s' (by omega) h') (fun _ x=>x)) (h k s (by omega) hs))
 exact fun {s} hs=>key n 0 s (by omega) hs
theorem wrapN{k:Nat}(h:k<1000000000000):i64.wrap ((k:Int)+1)=((k+1:Nat):Int):=by rw[wrap64 (by omega)]; simp
theorem idxN{α:Type}{l:List α}{k:Nat}(h:k<l.length):(0:Int)<=(k:Int)/\l[(k:Int).toNat]? = some l[k]:=⟨by omega,by simp[h]⟩
theorem getFN{a:M}{k:Nat}(h:k<8):getF a (k:Int)=a ⟨k,h⟩:=by rw[getF8 (by omega)]; rfl
theorem ZlX(m:M):(Zcl m).Ret (suppM m):=by
 show (Cq.loop _ _).wp _
 refine Cq.Zk 8 (fun k s=>s=(suppTo m k,(k:Int))) (fun k s hk hs=>?_) (fun s hs=>?_) rfl
 .subst hs
  refine Cq.wp.yes (p:=(k:Int)<8) (by omega) ?_
  refine⟨by omega,?_⟩
  rw[Cq.Zd,getFN hk]
  have hb:=ZdP m k
  split
  .rename_i h
   refine⟨by omega,?_⟩
   show _=_
   rw[wrapN (by omega),Zlj hk,Zqg hk hb.1 hb.2,Zjm m hk h]
  rename_i h
  show _=_
  rw[wrapN (by omega),Zkm m hk h]
 subst hs
 refine Cq.wp.no (p:=((8:Nat):Int)<8) (by omega) ?_
 rfl
theorem Zfl(a b:M):(ZfO a b).Ret (cmpM a b):=by
 refine Cq.Zk 8 (fun k s=>s=(k:Int)/\∀ i:Fin 8,i.val<k->a i=b i) (fun k s hk hs=>?_) (fun s hs=>?_) ⟨rfl,fun i hi=>by omega⟩
 .obtain⟨rfl,hi⟩:=hs
  rw[Cq.Zd,if_pos (by omega)]
  refine⟨by omega,by omega,?_⟩
  rw[Cq.Zd,getFN hk,getFN hk]
  split
  .rename_i h
   show _=_
   exact (Zmg a b hk hi h).symm
  rename_i h
  refine⟨by omega,by omega,?_⟩
  rw[Cq.Zd]
  split
  .rename_i h2
   show _=_
   exact (Zmf a b hk hi h2).symm
  exact⟨wrapN (by omega),Zor hi hk (by omega)⟩
 obtain⟨rfl,hi⟩:=hs
 rw[Cq.Zd,if_neg (by omega)]
 show _=_
 exact (Zme a b (fun i=>hi i i.isLt)).symm
theorem ZlM{i:Nat}(hi:i<8):(Zjy (i:Int)).Ret (p2 i):=by
 refine Cq.Zk i (fun k s=>s=(p2 k,(k:Int))) (fun k s hk hs=>?_) (fun s hs=>?_) rfl
 .subst hs
  show (if (k:Int)<(i:Int) then _ else _:Cq _).wp _
  have:=ZkI (k:=k) (by omega)
  rw[Cq.Zd,if_pos (by omega)]
  show _=_
  rw[wrapN (by omega),wrap64 (by omega)]; rfl
 subst hs
 refine Cq.wp.no (p:=(i:Int)<(i:Int)) (by omega) ?_
 exact ZpA hi
theorem ZiY(m:M):(Zfm m).Ret (suppM m):=by
 refine Cq.Zk 8 (fun k s=>s=(suppTo m k,(k:Int))) (fun k s hk hs=>?_) (fun s hs=>?_) rfl
 .subst hs
  have h1:=ZdP m k
  refine Cq.wp.yes (p:=(k:Int)<8) (by omega) ?_
  refine⟨by omega,?_⟩
  rw[Cq.Zd,getFN hk]
  split
  .rename_i hp
   refine⟨_,ZlM hk,?_⟩
   show _=_
   rw[wrapN (by omega),ZpF hk h1.1 h1.2,Zjm m hk hp]
  rename_i hp
  show _=_
  rw[wrapN (by omega),Zkm m hk hp]
 subst hs
 refine Cq.wp.no (p:=((8:Nat):Int)<8) (by omega) ?_
 rfl
theorem ZgD{m:M}(h:Ok m):(ZeY m).Ret true:=by
 refine Cq.Zk 8 (fun k s=>s=(k:Int)) (fun k s hk hs=>?_) (fun s hs=>?_) rfl
 .subst hs
  have:=h ⟨k,hk⟩
  rw[Cq.Zd,if_pos (by omega)]
  refine⟨by omega,?_⟩
  rw[Cq.Zd,getFN hk,if_neg (by omega)]
  refine⟨by omega,?_⟩
  rw[Cq.Zd,if_neg (by omega)]
  exact wrapN (by omega)
 subst hs
 rw[Cq.Zd,if_neg (by omega)]
 rfl
theorem Znt{m:M}(h:Ok m):(Zdo m).Ret true:=by
 refine Cq.Zk 8 (fun k s=>s=(k:Int)) (fun k s hk hs=>?_) (fun s hs=>?_) rfl
 .subst hs
  have:=h ⟨k,hk⟩
  refine Cq.wp.yes (p:=(k:Int)<8) (by omega) ?_
  refine⟨by omega,?_⟩
  rw[Cq.Zd,getFN hk,if_neg (by omega),Cq.Zd,if_neg (by omega)]
  exact wrapN (by omega)
 subst hs
 refine Cq.wp.no (p:=((8:Nat):Int)<8) (by omega) ?_
 rfl
def degTo(m:M):Nat->Int
 | 0=>0
 | k+1=>degTo m k+(if h:k<8 then m ⟨k,h⟩ else 0)
def degM(m:M):Int:=degTo m 8
theorem Ziv{m:M}(h:Ok m):∀ k:Nat,0<=degTo m k/\degTo m k<=65535*k
 | 0=>by simp[degTo]
 | k+1=>by
  have ih:=Ziv h k
  simp only[degTo]
  split
  .rename_i hk; have:=h ⟨k,hk⟩; omega
  omega
theorem Zjz{m:M}(h:Ok m):(Zf9 m).Ret (degM m):=by
 refine Cq.Zk 8 (fun k s=>s=(degTo m k,(k:Int))) (fun k s hk hs=>?_) (fun s hs=>?_) rfl
 .subst hs
  have h1:=Ziv h k
  have h2:=h ⟨k,hk⟩
  refine Cq.wp.yes (p:=(k:Int)<8) (by omega) ?_
  refine⟨by omega,?_⟩
  show _=_
  rw[wrapN (by omega),getFN hk,wrap64 (by omega),degTo,dif_pos hk]
 subst hs
 refine Cq.wp.no (p:=((8:Nat):Int)<8) (by omega) ?_
 rfl
theorem ZmJ{m:M}(h:Ok m):(ZcX m).Ret (degM m):=by
 refine Cq.Zk 8 (fun k s=>s=(degTo m k,(k:Int))) (fun k s hk hs=>?_) (fun s hs=>?_) rfl
 .subst hs
  have h1:=Ziv h k
  have h2:=h ⟨k,hk⟩
  refine Cq.wp.yes (p:=(k:Int)<8) (by omega) ?_
  refine⟨by omega,?_⟩
  show _=_
  rw[wrapN (by omega),getFN hk,wrap64 (by omega),degTo,dif_pos hk]
 subst hs
 refine Cq.wp.no (p:=((8:Nat):Int)<8) (by omega) ?_
 rfl
def mulM(a b:M):M:=fun i=>a i+b i
theorem ZlN{a b:M}(ha:Ok a)(hb:Ok b)(hab:Ok (mulM a b)):(ZjA a b).Ret (mulM a b,0):=by
 show (Cq.next _ _).wp _
 refine Cq.Zk 8 (fun k s=>s=((k:Int),mixM k (mulM a b) a)) (fun k s hk hs=>?_) (fun s hs=>?_) (by rw[ZoK]; rfl)
 .subst hs
  have h1:=ha ⟨k,hk⟩
  have h2:=hb ⟨k,hk⟩
  rw[Cq.Zd,if_pos (by omega)]
  refine⟨by omega,by omega,by omega,?_⟩
  show _=_
  rw[wrapN (by omega),getFN hk,getFN hk,Zp8,wrap64 (by omega)]
  exact congrArg (Prod.mk _) (ZoJ (mulM a b) a hk)
 subst hs
 rw[Cq.Zd,if_neg (by omega),Zpv _ _ (by omega)]
 exact⟨true,ZgD hab,rfl⟩
end Go.EL

namespace Go.EL
open Go.IntKind (i8 i16 i32 i64 u8 u16 u32 u64)
open Go Go.RowKit
structure TermOk (t:Ze):Prop where
 c:∃ c:Int,t.c=ratI c/\c≠0/\-12<=c/\c<=12
 m:Ok t.m
structure PolOk (p:List Ze):Prop where
 ord:p.Pairwise fun x y=>0<cmpM x.m y.m
 trm:∀ t ∈ p,TermOk t
 len:p.length<=100
theorem TermOk.rv{t:Ze}(h:TermOk t):(ZeX t.c).Ret true:=by
 obtain⟨⟨c,e,h0,h1,h2⟩,_⟩:=h
 have:=Z4 Zog (x:=c) (by omega) (by omega)
 rw[e]
 exact Za5 (by simpa [h0] using this)
theorem TermOk.rs{t:Ze}(h:TermOk t):∃ s,(Zcf t.c).Ret s/\s≠0:=by
 obtain⟨⟨c,e,h0,h1,h2⟩,_⟩:=h
 have:=Z4 ZiN (x:=c) (by omega) (by omega)
 rw[e]
 exact⟨_,Za5 this,by split <;> omega⟩
theorem TermOk.pv{t:Ze}(h:TermOk t):(ZbX t.c).Ret true:=by
 obtain⟨⟨c,e,h0,h1,h2⟩,_⟩:=h
 have:=Z4 Znd (x:=c) (by omega) (by omega)
 rw[e]
 exact Za5 (by simpa [h0] using this)
theorem TermOk.ps{t:Ze}(h:TermOk t):∃ s,(Zby t.c).Ret s/\s≠0:=by
 obtain⟨⟨c,e,h0,h1,h2⟩,_⟩:=h
 have:=Z4 ZnX (x:=c) (by omega) (by omega)
 rw[e]
 refine⟨_,Za5 (by simpa [h0] using this),?_⟩
 split <;> first|omega|(split <;> omega)
theorem PolOk.at{p:List Ze}(h:PolOk p){k:Nat}(hk:k<p.length):TermOk p[k]:=h.trm _ (List.getElem_mem hk)
theorem PolOk.step{p:List Ze}(h:PolOk p){k:Nat}(hk:k+1<p.length):0<cmpM p[k].m p[k+1].m:=List.pairwise_iff_getElem.1 h.ord k (k+1) (by omega) hk (by omega)
theorem ZgE{p:List Ze}(h:PolOk p):(ZeZ p).Ret true:=by
 have hl:=h.len
 refine Cq.Zk p.length (fun k s=>s=(k:Int)) (fun k s hk hs=>?_) (fun s hs=>?_) rfl
 .subst hs
  have ht:=h.at hk
  obtain⟨s,h1,h2⟩:=ht.rs
  rw[Cq.Zd,if_pos (by omega)]
  refine⟨p[k],idxN hk,true,ht.rv,p[k],idxN hk,s,h1,?_⟩
  rw[Cq.Zd,if_neg h2]
  refine⟨p[k],idxN hk,true,ZgD ht.m,?_⟩
  rw[Cq.Zd,if_neg (by decide)]
  show (ZcH p (k:Int)).wp _
  unfold ZcH
  rw[Cq.Zd]
  split
  .rename_i h0
   obtain⟨j,rfl⟩:∃ j,k=j+1:=⟨k-1,by omega⟩
   have hj:i64.wrap (((j+1:Nat):Int)-1)=(j:Int):=by rw[wrap64 (by omega)]; omega
   rw[hj]
   refine⟨p[j],idxN (by omega),p[j+1],idxN hk,_,Zfl _ _,?_⟩
   have:=h.step hk
   rw[Cq.Zd,if_neg (by omega)]
   exact wrapN (by omega)
  exact wrapN (by omega)
 subst hs
 rw[Cq.Zd,if_neg (by omega)]
 rfl
theorem ZcY{p:List Ze}(h:PolOk p):(Zbp p).Ret true:=by
 have hl:=h.len
 refine Cq.Zk p.length (fun k s=>s=(k:Int)) (fun k s hk hs=>?_) (fun s hs=>?_) rfl
 .subst hs
  have ht:=h.at hk
  obtain⟨s,h1,h2⟩:=ht.ps
  refine Cq.wp.yes (p:=(k:Int)<(p.length:Int)) (by omega) ?_
  refine⟨p[k],idxN hk,true,ht.pv,s,h1,?_⟩
  rw[Cq.Zd,if_neg h2]
  refine⟨true,Znt ht.m,?_⟩
  rw[Cq.Zd,if_neg (by decide)]
  show (ZaN p (k:Int) p[k]).wp _
  unfold ZaN
  rw[Cq.Zd]
  split
  .rename_i h0
   obtain⟨j,rfl⟩:∃ j,k=j+1:=⟨k-1,by omega⟩
   have hj:i64.wrap (((j+1:Nat):Int)-1)=(j:Int):=by rw[wrap64 (by omega)]; omega
   rw[hj]
   refine⟨p[j],idxN (by omega),_,ZeL _ _,?_⟩
   have:=h.step hk
   rw[Cq.Zd,if_neg (by omega)]
   exact wrapN (by omega)
  exact wrapN (by omega)
 subst hs
 refine Cq.wp.no (p:=((p.length:Nat):Int)<(p.length:Int)) (by omega) ?_
 rfl
def usesTo(p:List Ze):Nat->Int
 | 0=>0
 | k+1=>u8.wrap (BitVec.ofInt u8.bits (usesTo p k) ||| BitVec.ofInt u8.bits (match p[k]? with|some t=>suppM t.m|none=>0)).toNat
def usesP(p:List Ze):Int:=usesTo p p.length
def degPTo(p:List Ze):Nat->Int
 | 0=>-1
 | k+1=>match p[k]? with|some t=>if degPTo p k<degM t.m then degM t.m else degPTo p k|none=>degPTo p k
def degP(p:List Ze):Int:=degPTo p p.length
theorem ZcG{p:List Ze}(hl:p.length<=100):(Zdf p).Ret (usesP p):=by
 refine Cq.Zk p.length (fun k s=>s=(usesTo p k,(k:Int))) (fun k s hk hs=>?_) (fun s hs=>?_) rfl
 .subst hs
  refine Cq.wp.yes (p:=(k:Int)<(p.length:Int)) (by omega) ?_
  refine⟨p[k],idxN hk,_,ZiY _,?_⟩
  show _=_
  rw[wrapN (by omega)]
  simp only[usesTo,List.getElem?_eq_getElem hk]
 subst hs
 refine Cq.wp.no (p:=((p.length:Nat):Int)<(p.length:Int)) (by omega) ?_
 rfl
theorem Zit{p:List Ze}(hl:p.length<=100):(ZaX p).Ret (usesP p):=by
 refine Cq.Zk p.length (fun k s=>s=(usesTo p k,(k:Int))) (fun k s hk hs=>?_) (fun s hs=>?_) rfl
 .subst hs
  refine Cq.wp.yes (p:=(k:Int)<(p.length:Int)) (by omega) ?_
  refine⟨p[k],idxN hk,_,ZlX _,?_⟩
  show _=_
  rw[wrapN (by omega)]
  simp only[usesTo,List.getElem?_eq_getElem hk]
 subst hs
 refine Cq.wp.no (p:=((p.length:Nat):Int)<(p.length:Int)) (by omega) ?_
 rfl
theorem ZfQ{p:List Ze}(h:PolOk p):(Zd5 p).Ret (degP p):=by
 have hl:=h.len
 refine Cq.Zk p.length (fun k s=>s=(degPTo p k,(k:Int))) (fun k s hk hs=>?_) (fun s hs=>?_) rfl
 .subst hs
  refine Cq.wp.yes (p:=(k:Int)<(p.length:Int)) (by omega) ?_
  refine⟨p[k],idxN hk,_,Zjz (h.at hk).m,?_⟩
  show _=_
  rw[wrapN (by omega)]
  simp only[degPTo,List.getElem?_eq_getElem hk]
 subst hs
 refine Cq.wp.no (p:=((p.length:Nat):Int)<(p.length:Int)) (by omega) ?_
 rfl
theorem ZhX{p:List Ze}(h:PolOk p):(Za8 p).Ret (degP p):=by
 have hl:=h.len
 refine Cq.Zk p.length (fun k s=>s=(degPTo p k,(k:Int))) (fun k s hk hs=>?_) (fun s hs=>?_) rfl
 .subst hs
  refine Cq.wp.yes (p:=(k:Int)<(p.length:Int)) (by omega) ?_
  refine⟨p[k],idxN hk,_,ZmJ (h.at hk).m,?_⟩
  show _=_
  rw[wrapN (by omega)]
  simp only[degPTo,List.getElem?_eq_getElem hk]
 subst hs
 refine Cq.wp.no (p:=((p.length:Nat):Int)<(p.length:Int)) (by omega) ?_
 rfl
end Go.EL

namespace Go.EL
open Go.IntKind (i8 i16 i32 i64 u8 u16 u32 u64)
open Go Go.RowKit
def fitB(p:List Ze)(n:Int):Bool:=if (Int.fdiv (i64.wrap (usesP p)) (2 ^ (min (n).toNat i64.bits)))=0 then decide (degP p<=12) else false
theorem Zg1{p:List Ze}(h:PolOk p){n:Int}(hn:0<=n):(Zge p n).Ret (fitB p n):=by
 refine⟨true,ZgE h,_,ZcG h.len,hn,?_⟩
 unfold fitB
 rw[Cq.Zd]
 split
 .exact⟨_,ZfQ h,rfl⟩
 rfl
theorem Zfe{p:List Ze}(h:PolOk p){n:Int}(hn:0<=n):(ZfK p n).Ret (fitB p n):=by
 refine⟨true,ZcY h,_,Zit h.len,hn,?_⟩
 unfold fitB
 rw[Cq.Zd]
 split
 .exact⟨_,ZhX h,rfl⟩
 rfl
theorem Zjl(a:M):∀ k:Nat,k<=8->∀ i:Fin 8,(suppTo a k).toNat.testBit i.val=(decide (i.val<k) && decide (0<a i))
 | 0,_,i=>by simp[suppTo]
 | k+1,hk,i=>by
  have ih:=Zjl a k (by omega) i
  have hb:=ZdP a k
  have hk':k<8:=by omega
  rw[ZdO] at hb
  simp only[suppTo,dif_pos hk']
  by_cases hi:i.val=k
  .have e:i=⟨k,hk'⟩:=Fin.ext hi
   subst e
   by_cases hp:0<a ⟨k,hk'⟩
   .rw[if_pos hp,ZdO,show (suppTo a k+((2 ^ k:Nat):Int)).toNat=2 ^ k+(suppTo a k).toNat by omega,Nat.testBit_two_pow_add_eq,Nat.testBit_lt_two_pow (by omega)]
    simp[hp]
   rw[if_neg hp,Int.add_zero]
   show (suppTo a k).toNat.testBit k=_
   rw[Nat.testBit_lt_two_pow (by omega)]
   simp[hp]
  have e1:(decide (i.val<k+1))=decide (i.val<k):=by
   by_cases h:i.val<k
   .simp[h,show i.val<k+1 by omega]
   simp[h,show ¬ i.val<k+1 by omega]
  rw[e1,<- ih]
  by_cases hp:0<a ⟨k,hk'⟩
  .rw[if_pos hp,ZdO,show (suppTo a k+((2 ^ k:Nat):Int)).toNat=2 ^ k+(suppTo a k).toNat by omega]
   by_cases h:i.val<k
   .rw[Nat.testBit_two_pow_add_gt h]
   rw[Nat.testBit_lt_two_pow (x:=(suppTo a k).toNat) (Nat.lt_of_lt_of_le (by omega:(suppTo a k).toNat<2 ^ k) (Nat.pow_le_pow_right (by omega) (by omega)))]
   refine Nat.testBit_lt_two_pow (Nat.lt_of_lt_of_le (by have:=hb.2; omega:2 ^ k+(suppTo a k).toNat<2 ^ (k+1)) (Nat.pow_le_pow_right (by omega) (by omega)))
  rw[if_neg hp,Int.add_zero]
theorem Zn3(a:M)(i:Fin 8):(suppM a).toNat.testBit i.val=decide (0<a i):=by
 unfold suppM
 rw[Zjl a 8 (by omega)]
 simp[i.isLt]
theorem ZlD(a:M):0<=suppM a/\suppM a<256:=ZdP a 8
theorem Zo3{a b:Nat}(ha:a<256)(hb:b<256):u8.wrap (BitVec.ofInt u8.bits (a:Int) ||| BitVec.ofInt u8.bits (b:Int)).toNat=((a ||| b:Nat):Int):=by
 have h:(BitVec.ofInt u8.bits (a:Int) ||| BitVec.ofInt u8.bits (b:Int)).toNat=a ||| b:=by
  rw[BitVec.toNat_or]
  simp only[IntKind.bits,BitVec.toNat_ofInt]
  rw[show (((a:Int) % ((2 ^ 8:Nat):Int)).toNat)=a by omega,show (((b:Int) % ((2 ^ 8:Nat):Int)).toNat)=b by omega]
 have h2:a ||| b<256:=Nat.or_lt_two_pow (n:=8) ha hb
 rw[h]
 simp only[IntKind.wrap,IntKind.bits,IntKind.signed,Bool.false_and,Bool.false_eq_true,if_false]
 omega
def usesN(p:List Ze):Nat->Nat
 | 0=>0
 | k+1=>usesN p k ||| (match p[k]? with|some t=>(suppM t.m).toNat|none=>0)
theorem ZiS(p:List Ze):∀ k,usesN p k<256
 | 0=>by simp[usesN]
 | k+1=>by
  refine Nat.or_lt_two_pow (n:=8) (ZiS p k) ?_
  split
  .rename_i t _
   have h:(suppM t.m).toNat<256:=by have:=ZlD t.m; omega
   exact h
  decide
theorem Zjq(p:List Ze):∀ k,usesTo p k=(usesN p k:Int)
 | 0=>rfl
 | k+1=>by
  have h1:=ZiS p k
  unfold usesTo usesN
  rw[Zjq p k]
  cases p[k]? with
  | none=>exact Zo3 (b:=0) h1 (by omega)
  | some t=>
   have h:=ZlD t.m
   obtain⟨n,hn⟩:=Int.eq_ofNat_of_zero_le h.1
   show u8.wrap (BitVec.ofInt u8.bits (usesN p k:Int) ||| BitVec.ofInt u8.bits (suppM t.m)).toNat=((usesN p k ||| (suppM t.m).toNat:Nat):Int)
   rw[hn]
   exact Zo3 h1 (by omega)
theorem Zkr(p:List Ze)(i:Fin 8):∀ k,(usesN p k).testBit i.val=(p.take k).any fun t=>decide (0<t.m i)
 | 0=>by simp[usesN]
 | k+1=>by
  simp only[usesN,Nat.testBit_or,Zkr p i k]
  cases h:p[k]? with
  | none=>
   have:p.length<=k:=List.getElem?_eq_none_iff.1 h
   simp[List.take_of_length_le this,List.take_of_length_le (show p.length<=k+1 by omega)]
  | some t=>
   rw[List.take_add_one,h]
   simp[Zn3]
theorem Zks(p:List Ze):usesP p=(usesN p p.length:Int):=Zjq p _
theorem Zfh(p:List Ze)(i:Fin 8):(usesP p).toNat.testBit i.val=p.any fun t=>decide (0<t.m i):=by
 rw[Zks,Int.toNat_natCast,Zkr,List.take_length]
theorem Zgy(p:List Ze):0<=usesP p/\usesP p<256:=by have:=ZiS p p.length; rw[Zks]; omega
theorem Zk9(u n:Nat):Int.fdiv (u:Int) ((2:Int) ^ n)=((u >>> n:Nat):Int):=by
 rw[Nat.shiftRight_eq_div_pow,show ((2:Int) ^ n)=((2 ^ n:Nat):Int) by simp,Int.fdiv_eq_ediv_of_nonneg _ (Int.natCast_nonneg _)]
 simp
theorem Zjj(p:List Ze){n:Int}(h0:0<=n)(h8:n<=8):Int.fdiv (i64.wrap (usesP p)) (2 ^ (min (n).toNat i64.bits))=(((usesP p).toNat >>> n.toNat:Nat):Int):=by
 have:=Zgy p
 rw[wrap64 (by omega),show min n.toNat i64.bits=n.toNat by simp only[IntKind.bits]; omega]
 obtain⟨u,hu⟩:=Int.eq_ofNat_of_zero_le this.1
 rw[hu]
 exact Zk9 u _
theorem Zj4(p:List Ze)(d:Int)(hd:-1<=d):∀ k,k<=p.length->(degPTo p k<=d↔∀ i (h:i<p.length),i<k->degM p[i].m<=d)
 | 0,_=>by simp[degPTo,hd]
 | k+1,hk=>by
  have ih:=Zj4 p d hd k (by omega)
  have hk':k<p.length:=by omega
  simp only[degPTo,List.getElem?_eq_getElem hk']
  constructor
  .intro h i hi hik
   by_cases e:i=k
   .subst e; split at h <;> omega
   refine ih.1 ?_ i hi (by omega)
   split at h <;> omega
  intro h
  have h1:=h k hk' (by omega)
  have h2:=ih.2 fun i hi hik=>h i hi (by omega)
  split <;> omega
theorem Zmh{p:List Ze}{d:Int}(hd:-1<=d):degP p<=d↔∀ t ∈ p,degM t.m<=d:=by
 unfold degP
 rw[Zj4 p d hd p.length (by omega)]
 constructor
 .intro h t ht
  obtain⟨i,hi,rfl⟩:=List.mem_iff_getElem.1 ht
  exact h i hi hi
 intro h i hi _
 exact h _ (List.getElem_mem hi)
def Within(n:Nat)(p:List Ze):Prop:=∀ t ∈ p,∀ i:Fin 8,n<=i.val->¬ 0<t.m i
theorem Zgz{p:List Ze}{n:Nat}:((usesP p).toNat >>> n=0)↔Within n p:=by
 have hb:=Zgy p
 constructor
 .intro h t ht i hi hp
  have h1:=Zfh p i
  rw[show (p.any fun t=>decide (0<t.m i))=true from List.any_eq_true.2 ⟨t,ht,decide_eq_true hp⟩] at h1
  have h2:((usesP p).toNat >>> n).testBit (i.val-n)=true:=by rw[Nat.testBit_shiftRight,show n+(i.val-n)=i.val by omega]; exact h1
  rw[h] at h2
  simp at h2
 intro h
 refine Nat.eq_of_testBit_eq fun j=>?_
 rw[Nat.testBit_shiftRight,Nat.zero_testBit]
 by_cases hj:n+j<8
 .rw[Zfh p ⟨n+j,hj⟩]
  refine List.any_eq_false.2 fun t ht=>?_
  simp only[decide_eq_true_eq]
  exact h t ht _ (by simp)
 exact Nat.testBit_lt_two_pow (Nat.lt_of_lt_of_le (show (usesP p).toNat<2 ^ 8 by omega) (Nat.pow_le_pow_right (by omega) (by omega)))
theorem Zgo{p:List Ze}{n:Nat}(hn:n<=8):fitB p (n:Int)=true↔Within n p/\∀ t ∈ p,degM t.m<=12:=by
 unfold fitB
 rw[Zjj p (by omega) (by omega),Int.toNat_natCast]
 by_cases h:(usesP p).toNat >>> n=0
 .rw[if_pos (by rw[h]; rfl),decide_eq_true_eq,Zmh (by omega)]
  exact⟨fun k=>⟨Zgz.1 h,k⟩,fun k=>k.2⟩
 rw[if_neg (by omega)]
 exact⟨fun k=>absurd k (by decide),fun k=>absurd (Zgz.2 k.1) h⟩
def Occurs(i:Fin 8)(p:List Ze):Bool:=p.any fun t=>decide (0<t.m i)
theorem Zgx(p:List Ze)(i:Fin 8):(Int.tmod (Int.fdiv (i64.wrap (usesP p)) (2 ^ (min ((i.val:Int)).toNat i64.bits))) 2=1)↔Occurs i p=true:=by
 have:=i.isLt
 rw[Zjj p (by omega) (by omega),Int.toNat_natCast]
 have h:=Zfh p i
 rw[Nat.testBit_eq_decide_div_mod_eq,<- Nat.shiftRight_eq_div_pow] at h
 unfold Occurs
 rw[<- h,decide_eq_true_eq]
 generalize (usesP p).toNat >>> i.val=z
 rw[Int.tmod_eq_emod_of_nonneg (Int.natCast_nonneg z)]
 omega
theorem ZpG{a b:Nat}(ha:a<256)(hb:b<256):u8.wrap (BitVec.ofInt u8.bits (a:Int) &&& BitVec.ofInt u8.bits (b:Int)).toNat=((a &&& b:Nat):Int):=by
 have h:(BitVec.ofInt u8.bits (a:Int) &&& BitVec.ofInt u8.bits (b:Int)).toNat=a &&& b:=by
  rw[BitVec.toNat_and]
  simp only[IntKind.bits,BitVec.toNat_ofInt]
  rw[show (((a:Int) % ((2 ^ 8:Nat):Int)).toNat)=a by omega,show (((b:Int) % ((2 ^ 8:Nat):Int)).toNat)=b by omega]
 have h2:a &&& b<=a:=Nat.and_le_left
 rw[h]
 simp only[IntKind.wrap,IntKind.bits,IntKind.signed,Bool.false_and,Bool.false_eq_true,if_false]
 omega
theorem Zkq(p:List Ze)(i:Fin 8):(¬ (u8.wrap (BitVec.ofInt u8.bits (usesP p) &&& BitVec.ofInt u8.bits (u8.wrap (1*2 ^ (min ((i.val:Int)).toNat u8.bits)))).toNat)=0)↔Occurs i p=true:=by
 have hb:=Zgy p
 have hi:=i.isLt
 have h2:=ZkI hi
 rw[Zlj hi,ZdO]
 obtain⟨u,hu⟩:=Int.eq_ofNat_of_zero_le hb.1
 have h:=Zfh p i
 rw[hu,Int.toNat_natCast] at h
 rw[ZdO] at h2
 rw[hu,ZpG (by omega) (by omega)]
 unfold Occurs
 rw[<- h]
 constructor
 .intro hn
  cases hb:u.testBit i.val with
  | true=>rfl
  | false=>
   exfalso
   apply hn
   have:u &&& 2 ^ i.val=0:=by
    refine Nat.eq_of_testBit_eq fun j=>?_
    rw[Nat.testBit_and,Nat.testBit_two_pow,Nat.zero_testBit]
    by_cases e:i.val=j
    .subst e; simp[hb]
    simp[e]
   rw[this]; rfl
 intro ht hn
 have h3:u &&& 2 ^ i.val=0:=by omega
 have h4:(u &&& 2 ^ i.val).testBit i.val=true:=by rw[Nat.testBit_and,ht,Nat.testBit_two_pow_self]; rfl
 rw[h3] at h4
 simp at h4
end Go.EL

namespace Go.EL
open Go.IntKind (i8 i16 i32 i64 u8 u16 u32 u64)
open Go Go.RowKit
def valR(r:Zm):Int:=if r.num.neg=true then -(r.num.mag.headD 0) else r.num.mag.headD 0
theorem ZhF(c:Int):valR (ratI c)=c:=by
 unfold valR ratI
 by_cases h:c<0
 .simp[h,show ¬ c=0 by omega]; omega
 by_cases h0:c=0
 .simp[h0]
 simp[h,h0]; omega
def addT:List Ze->Ze->List Ze
 | [],t=>[t]
 | x::xs,t=>if 0<cmpM x.m t.m then x::addT xs t else if cmpM x.m t.m<0 then t::x::xs else if valR x.c+valR t.c=0 then xs else ⟨ratI (valR x.c+valR t.c),x.m⟩::xs
theorem Zh8:∀ (p:List Ze) (t:Ze),(addT p t).length<=p.length+1
 | [],_=>by simp[addT]
 | x::xs,t=>by
  have ih:=Zh8 xs t
  simp only[addT]
  split
  .simp; omega
  split
  .simp
  split <;> simp; omega
theorem Zg5:∀ (k:Nat) (p:List Ze) (t:Ze),k<=p.length->(∀ x ∈ p.take k,0<cmpM x.m t.m)->addT p t=p.take k++addT (p.drop k) t
 | 0,p,t,_,_=>by simp
 | k+1,[],t,h,_=>by simp at h
 | k+1,x::xs,t,h,hx=>by
  have h1:0<cmpM x.m t.m:=hx x (by simp)
  rw[addT,if_pos h1,Zg5 k xs t (by simpa using h) (fun y hy=>hx y (by simp[hy]))]
  simp
def Near(p:List Ze)(t:Ze):Prop:=∀ x ∈ p,x.m=t.m->∃ a b,x.c=ratI a/\t.c=ratI b/\-12<=a/\a<=12/\-3<=b/\b<=3
theorem ZoL{p:List Ze}{t x:Ze}(h:Near p t)(hx:x ∈ p)(hm:x.m=t.m):(ZhI x.c t.c).Ret (ratI (valR x.c+valR t.c))/\∃ s,(Zcf (ratI (valR x.c+valR t.c))).Ret s/\(s=0↔valR x.c+valR t.c=0):=by
 obtain⟨a,b,e1,e2,h1,h2,h3,h4⟩:=h x hx hm
 rw[e1,e2,ZhF,ZhF]
 have k1:=Z4 (Z4 Zo9 h1 h2) h3 h4
 have k2:=Z4 ZiN (x:=a+b) (by omega) (by omega)
 refine⟨Za5 k1,_,Za5 k2,?_⟩
 split
 .omega
 split <;> omega
theorem ZlO{p:List Ze}(hl:p.length<=100):(ZfP p []).Ret p:=by
 show (Cq.next _ _).wp _
 refine Cq.Zk p.length (fun k s=>s=(p.take k,(k:Int),0)) (fun k s hk hs=>?_) (fun s hs=>?_) (by simp)
 .subst hs
  refine Cq.wp.yes (p:=(k:Int)<(p.length:Int)) (by omega) ?_
  unfold Zbj
  rw[Cq.Zd,if_pos (by simp)]
  unfold ZaR
  rw[Cq.Zd,if_pos rfl]
  refine⟨p[k],idxN hk,by simp[small]; omega,?_⟩
  show _=_
  rw[wrapN (by omega),List.take_append_getElem hk]
 subst hs
 show (if ((p.length:Nat):Int)<(p.length:Int) then _ else _:Cq _).wp _
 rw[Cq.Zd,if_neg (by omega),Cq.Zd,if_neg (by simp)]
 exact List.take_length
theorem ZhZ{p:List Ze}{t:Ze}(hl:p.length<=100)(hn:Near p t):(ZfP p [t]).Ret (addT p t):=by
 show (Cq.next _ _).wp _
 refine Cq.ZeJ (fun s=>(∃ i:Nat,i<=p.length/\s=(p.take i,(i:Int),0)/\∀ x ∈ p.take i,0<cmpM x.m t.m)\/(∃ i:Nat,∃ out:List Ze,i<=p.length/\s=(out,(i:Int),1)/\out++p.drop i=addT p t/\out.length<=i+1))
  (fun s=>(p.length-s.2.1.toNat)+(1-s.2.2.toNat)) (fun s hs=>?_) _ (.inl ⟨0,by omega,by simp,by simp⟩)
 have hw:i64.wrap 1=1:=by decide
 rcases hs with ⟨i,hi,rfl,hx⟩|⟨i,out,hi,rfl,ho,hlo⟩
 .by_cases hil:i<p.length
  .refine Cq.wp.yes (p:=(i:Int)<(p.length:Int)) (by omega) ?_
   unfold Zbj
   rw[Cq.Zd,if_neg (by simp),Cq.Zd,if_pos (by omega)]
   refine⟨p[i],idxN hil,t,⟨by omega,rfl⟩,_,Zfl _ _,?_⟩
   unfold ZaR
   rw[Cq.Zd]
   have hadd:addT p t=p.take i++addT (p.drop i) t:=Zg5 i p t hi hx
   have hdrop:p.drop i=p[i]::p.drop (i+1):=List.drop_eq_getElem_cons hil
   by_cases hc:0<cmpM p[i].m t.m
   .rw[if_pos (decide_eq_true hc)]
    refine⟨p[i],idxN hil,by simp[small]; omega,?_⟩
    rw[wrapN (by omega),List.take_append_getElem hil]
    refine⟨.inl ⟨i+1,by omega,rfl,fun x hx'=>?_⟩,by simp; omega⟩
    rw[<- List.take_append_getElem hil] at hx'
    rcases List.mem_append.1 hx' with h|h
    .exact hx x h
    rw[List.mem_singleton] at h; subst h; exact hc
   rw[if_neg (by simpa using hc)]
   show (ZcF p [t] 0 (p.take i) (i:Int)).wp _
   unfold ZcF
   rw[Cq.Zd,if_neg (by omega)]
   refine⟨p[i],idxN hil,t,⟨by omega,rfl⟩,_,Zfl _ _,?_⟩
   unfold ZcE
   rw[Cq.Zd]
   by_cases hc2:cmpM p[i].m t.m<0
   .rw[if_pos (decide_eq_true hc2)]
    refine⟨t,⟨by omega,rfl⟩,by simp[small]; omega,?_⟩
    refine⟨.inr ⟨i,_,hi,rfl,?_,by simp; omega⟩,by simp[hw]⟩
    rw[hadd,hdrop,addT,if_neg hc,if_pos hc2]
    simp
   rw[if_neg (by simpa using hc2)]
   have hm:p[i].m=t.m:=Ze2 (by omega)
   obtain⟨h1,s,h2,h3⟩:=ZoL hn (List.getElem_mem hil) hm
   unfold Zgc
   refine⟨p[i],idxN hil,t,⟨by omega,rfl⟩,_,h1,s,h2,?_⟩
   rw[Cq.Zd]
   by_cases h0:valR p[i].c+valR t.c=0
   .rw[if_neg (by simpa using h3.2 h0)]
    rw[wrapN (by omega)]
    refine⟨.inr ⟨i+1,_,by omega,rfl,?_,by simp; omega⟩,by simp; omega⟩
    rw[hadd,hdrop,addT,if_neg hc,if_neg hc2,if_pos h0]
   rw[if_pos (fun h=>h0 (h3.1 h))]
   refine⟨p[i],idxN hil,by simp[small]; omega,?_⟩
   rw[wrapN (by omega)]
   refine⟨.inr ⟨i+1,_,by omega,rfl,?_,by simp; omega⟩,by simp; omega⟩
   rw[hadd,hdrop,addT,if_neg hc,if_neg hc2,if_neg h0]
   simp
  obtain rfl:i=p.length:=by omega
  show (if ((p.length:Nat):Int)<(p.length:Int) then _ else _:Cq _).wp _
  rw[Cq.Zd,if_neg (by omega),Cq.Zd,if_pos (by simp)]
  unfold Zbj
  rw[Cq.Zd,if_neg (by simp),Cq.Zd,if_neg (by omega)]
  unfold ZaR
  rw[Cq.Zd,if_neg (by decide)]
  unfold ZcF
  rw[Cq.Zd,if_pos rfl]
  unfold ZcE
  rw[Cq.Zd,if_pos rfl]
  refine⟨t,⟨by omega,rfl⟩,by simp[small]; omega,?_⟩
  refine⟨.inr ⟨p.length,_,by omega,rfl,?_,by simp⟩,by simp[hw]⟩
  rw[Zg5 p.length p t (by omega) hx,List.drop_length]
  simp[addT]
 by_cases hil:i<p.length
 .refine Cq.wp.yes (p:=(i:Int)<(p.length:Int)) (by omega) ?_
  unfold Zbj
  rw[Cq.Zd,if_pos (by simp)]
  unfold ZaR
  rw[Cq.Zd,if_pos rfl]
  refine⟨p[i],idxN hil,by simp[small]; omega,?_⟩
  rw[wrapN (by omega)]
  refine⟨.inr ⟨i+1,_,by omega,rfl,?_,by simp; omega⟩,by simp; omega⟩
  rw[<- ho,List.drop_eq_getElem_cons hil]
  simp
 obtain rfl:i=p.length:=by omega
 show (if ((p.length:Nat):Int)<(p.length:Int) then _ else _:Cq _).wp _
 rw[Cq.Zd,if_neg (by omega),Cq.Zd,if_neg (by simp)]
 show _=_
 rw[<- ho,List.drop_length,List.append_nil]
end Go.EL

namespace Go.EL
open Go.IntKind (i8 i16 i32 i64 u8 u16 u32 u64)
open Go Go.RowKit
structure IsPerm (π:M):Prop where
 rng:∀ i,0<=π i/\π i<8
 inj:∀ i j,π i=π j->i=j
def permTo(π m:M):Nat->M
 | 0=>fun _=>0
 | k+1=>if h:k<8 then setF (permTo π m k) (π ⟨k,h⟩).toNat (m ⟨k,h⟩) else permTo π m k
def permM(π m:M):M:=permTo π m 8
theorem Zki{π:M}(h:IsPerm π)(m:M):∀ k,k<=8->∀ i:Fin 8,i.val<k->∀ j:Fin 8,(j.val:Int)=π i->permTo π m k j=m i
 | 0,_,i,hi,_,_=>by omega
 | k+1,hk,i,hi,j,hj=>by
  have hk':k<8:=by omega
  simp only[permTo,dif_pos hk',setF]
  have r:=h.rng ⟨k,hk'⟩
  by_cases e:i.val=k
  .have:i=⟨k,hk'⟩:=Fin.ext e
   subst this
   rw[if_pos (by omega)]
  have hne:π i≠π ⟨k,hk'⟩:=fun he=>e (congrArg Fin.val (h.inj _ _ he))
  rw[if_neg (by omega)]
  exact Zki h m k (by omega) i (by omega) j hj
theorem Zii{π:M}(h:IsPerm π)(m:M):∀ k,k<=8->∀ j:Fin 8,(∀ i:Fin 8,i.val<k->π i≠(j.val:Int))->permTo π m k j=0
 | 0,_,_,_=>rfl
 | k+1,hk,j,hj=>by
  have hk':k<8:=by omega
  have r:=h.rng ⟨k,hk'⟩
  have:=hj ⟨k,hk'⟩ (by simp)
  simp only[permTo,dif_pos hk',setF]
  rw[if_neg (by omega)]
  exact Zii h m k (by omega) j fun i hi=>hj i (by omega)
theorem Zhw{π m:M}(hm:Ok m):∀ k,Ok (permTo π m k)
 | 0=>fun _=>by simp[permTo]
 | k+1=>fun j=>by
  simp only[permTo]
  split
  .rename_i hk
   simp only[setF]
   split
   .exact hm _
   exact Zhw hm k j
  exact Zhw hm k j
theorem Zll{π m:M}(hm:Ok m):Ok (permM π m):=Zhw hm 8
theorem Zdr{π:M}(h:IsPerm π)(m:M)(i j:Fin 8)(hj:(j.val:Int)=π i):permM π m j=m i:=Zki h m 8 (by omega) i i.isLt j hj
theorem Zhv{π:M}(h:IsPerm π){a b:M}(e:permM π a=permM π b):a=b:=by
 funext i
 have r:=h.rng i
 have h1:=Zdr h a i ⟨(π i).toNat,by omega⟩ (by simp; omega)
 have h2:=Zdr h b i ⟨(π i).toNat,by omega⟩ (by simp; omega)
 rw[<- h1,<- h2,e]
theorem Zhb(f:M)(x:Int)(q:Nat):∀ k,k<=8->degTo (setF f q x) k=degTo f k+(if h:q<8 then (if q<k then x-f ⟨q,h⟩ else 0) else 0)
 | 0,_=>by simp[degTo]
 | k+1,hk=>by
  have hk':k<8:=by omega
  simp only[degTo,dif_pos hk',Zhb f x q k (by omega),setF]
  by_cases e:k=q
  .subst e
   simp[hk']
   omega
  rw[if_neg e]
  by_cases h8:q<8
  .simp only[dif_pos h8]
   by_cases hq:q<k
   .rw[if_pos hq,if_pos (by omega)]; omega
   rw[if_neg hq,if_neg (by omega)]; omega
  simp only[dif_neg h8]; omega
theorem ZnD{π:M}(h:IsPerm π)(m:M):degM (permM π m)=degM m:=by
 have key:∀ k,k<=8->degM (permTo π m k)=degTo m k:=by
  intro k
  induction k with
  | zero=>intro _; simp[permTo,degM,degTo]
  | succ k ih=>
   intro hk
   have hk':k<8:=by omega
   have r:=h.rng ⟨k,hk'⟩
   have hq:(π ⟨k,hk'⟩).toNat<8:=by omega
   simp only[permTo,dif_pos hk',degTo]
   unfold degM at ih ⊢
   rw[Zhb _ _ _ 8 (by omega),dif_pos hq,if_pos hq,ih (by omega)]
   have:permTo π m k ⟨(π ⟨k,hk'⟩).toNat,hq⟩=0:=Zii h m k (by omega) _ fun i hi he=>by
    have:π i=π ⟨k,hk'⟩:=by simp at he; omega
    have:=congrArg Fin.val (h.inj _ _ this)
    simp at this; omega
   rw[this]; omega
 exact key 8 (by omega)
theorem ZnV{π:M}(h:IsPerm π)(x:Ze):(ZcB π x (0,fun _=>0)).Ret (permM π x.m):=by
 refine Cq.Zk 8 (fun k s=>s=((k:Int),permTo π x.m k)) (fun k s hk hs=>?_) (fun s hs=>?_) rfl
 .subst hs
  have r:=h.rng ⟨k,hk⟩
  refine Cq.wp.yes (p:=(k:Int)<8) (by omega) ?_
  refine⟨by omega,by omega,by rw[getFN hk]; exact r,?_⟩
  show _=_
  rw[wrapN (by omega),getFN hk,getFN hk]
  simp only[permTo,dif_pos hk]
 subst hs
 refine Cq.wp.no (p:=((8:Nat):Int)<8) (by omega) ?_
 rfl
theorem Zm8{π:M}(h:IsPerm π){p:List Ze}{k:Nat}(hk:k<p.length):(ZfR p π (k:Int) (0,fun _=>0)).Ret (permM π p[k].m):=by
 refine Cq.Zk 8 (fun j s=>s=((j:Int),permTo π p[k].m j)) (fun j s hj hs=>?_) (fun s hs=>?_) rfl
 .subst hs
  have r:=h.rng ⟨j,hj⟩
  refine Cq.wp.yes (p:=(j:Int)<8) (by omega) ?_
  refine⟨by omega,p[k],idxN hk,by omega,by rw[getFN hj]; exact r,?_⟩
  show _=_
  rw[wrapN (by omega),getFN hj,getFN hj]
  simp only[permTo,dif_pos hj]
 subst hs
 refine Cq.wp.no (p:=((8:Nat):Int)<8) (by omega) ?_
 rfl
theorem Zmv{π:M}(h:IsPerm π){k:Nat}(hk:k<8){bx:Fin 8->Bool}(hb:∀ j,bx j=true->∃ i:Fin 8,i.val<k/\(j.val:Int)=π i):¬ getF bx (π ⟨k,hk⟩)=true:=by
 have r:=h.rng ⟨k,hk⟩
 rw[ZfV bx (show (π ⟨k,hk⟩).toNat<8 by omega)]
 intro ht
 obtain⟨i,h1,h2⟩:=hb _ ht
 have:π i=π ⟨k,hk⟩:=by simp at h2; omega
 have:=congrArg Fin.val (h.inj _ _ this)
 simp at this; omega
theorem Zkl{π:M}(h:IsPerm π){k:Nat}(hk:k<8){bx:Fin 8->Bool}(hb:∀ j,bx j=true->∃ i:Fin 8,i.val<k/\(j.val:Int)=π i):∀ j,setF bx (π ⟨k,hk⟩).toNat true j=true->∃ i:Fin 8,i.val<k+1/\(j.val:Int)=π i:=by
 intro j hj
 have r:=h.rng ⟨k,hk⟩
 simp only[setF] at hj
 split at hj
 .exact⟨⟨k,hk⟩,by simp,by omega⟩
 obtain⟨i,h1,h2⟩:=hb j hj
 exact⟨i,by omega,h2⟩
theorem ZhU{π:M}(h:IsPerm π):(Zb0 π).Ret true:=by
 show (Cq.next _ _).wp _
 refine Cq.Zk 8 (fun k s=>∃ bx:Fin 8->Bool,s=((k:Int),bx)/\∀ j,bx j=true->∃ i:Fin 8,i.val<k/\(j.val:Int)=π i) (fun k s hk hs=>?_) (fun s hs=>?_) ⟨_,rfl,fun j hj=>by cases hj⟩
 .obtain⟨bx,rfl,hb⟩:=hs
  have r:=h.rng ⟨k,hk⟩
  refine Cq.wp.yes (p:=(k:Int)<8) (by omega) ?_
  refine⟨by omega,?_⟩
  rw[getFN hk,Cq.Zd,if_neg (by omega)]
  refine⟨by omega,?_⟩
  rw[Cq.Zd,if_neg (by omega)]
  refine⟨by omega,r,?_⟩
  rw[Cq.Zd,if_neg (Zmv h hk hb)]
  refine⟨by omega,r,?_⟩
  rw[wrapN (by omega)]
  exact⟨_,rfl,Zkl h hk hb⟩
 obtain⟨bx,rfl,hb⟩:=hs
 refine Cq.wp.no (p:=((8:Nat):Int)<8) (by omega) ?_
 rfl
end Go.EL

namespace Go.EL
open Go.IntKind (i8 i16 i32 i64 u8 u16 u32 u64)
open Go Go.RowKit
def permT(π:M)(t:Ze):Ze:=⟨t.c,permM π t.m⟩
def permAcc(π:M)(l:List Ze):List Ze:=l.foldl (fun acc t=>addT acc (permT π t)) []
def permP(π:M)(p:List Ze):List Ze:=permAcc π p
theorem Zoq{p:List Ze}{t:Ze}:(∀ x ∈ p,x.m≠t.m)->(addT p t).Perm (t::p):=by
 induction p with
 | nil=>intro _; exact List.Perm.refl _
 | cons x xs ih=>
  intro h
  have hx:=h x (by simp)
  simp only[addT]
  split
  .exact ((ih fun y hy=>h y (by simp[hy])).cons x).trans (List.Perm.swap _ _ _)
  split
  .exact List.Perm.refl _
  exact absurd (Ze2 (by omega)) hx
theorem ZkB{a b c:M}(h1:0<cmpM a b)(h2:0<cmpM b c):0<cmpM a c:=by
 have k1:=ZbH a b
 have k2:=ZbH b c
 have k3:=ZbH a c
 have:=ZgI (a:=c) (b:=b) (c:=a) (by omega) (by omega) (.inl (by omega))
 omega
abbrev Desc(p:List Ze):Prop:=p.Pairwise fun x y=>0<cmpM x.m y.m
theorem Zj0{p:List Ze}{t:Ze}:Desc p->Desc (addT p t)/\∀ z,(∀ x ∈ p,0<cmpM z x.m)->0<cmpM z t.m->∀ y ∈ addT p t,0<cmpM z y.m:=by
 induction p with
 | nil=>intro _; exact⟨by simp[addT],fun z _ h y hy=>by simp[addT] at hy; subst hy; exact h⟩
 | cons x xs ih=>
  intro hd
  obtain⟨h1,h2⟩:=List.pairwise_cons.1 hd
  obtain⟨i1,i2⟩:=ih h2
  simp only[addT]
  split
  .rename_i hc
   refine⟨List.pairwise_cons.2 ⟨i2 _ h1 hc,i1⟩,fun z hz hzt y hy=>?_⟩
   rcases List.mem_cons.1 hy with rfl|hy
   .exact hz _ (by simp)
   exact i2 z (fun w hw=>hz w (by simp[hw])) hzt y hy
  split
  .rename_i hc
   have hc':0<cmpM t.m x.m:=by have:=ZbH x.m t.m; omega
   refine⟨List.pairwise_cons.2 ⟨fun y hy=>?_,hd⟩,fun z hz hzt y hy=>?_⟩
   .rcases List.mem_cons.1 hy with rfl|hy
    .exact hc'
    exact ZkB hc' (h1 y hy)
   rcases List.mem_cons.1 hy with rfl|hy
   .exact hzt
   exact hz y hy
  split
  .exact⟨h2,fun z hz _ y hy=>hz y (by simp[hy])⟩
  refine⟨List.pairwise_cons.2 ⟨h1,h2⟩,fun z hz _ y hy=>?_⟩
  rcases List.mem_cons.1 hy with rfl|hy
  .exact hz x (by simp)
  exact hz y (by simp[hy])
theorem Zhu(π:M)(l:List Ze)(t:Ze):permAcc π (l++[t])=addT (permAcc π l) (permT π t):=by simp[permAcc,List.foldl_append]
theorem Zea{p:List Ze}(h:Desc p):p.Pairwise fun x y=>x.m≠y.m:=h.imp fun hp e=>by rw[e,Zha] at hp; omega
theorem Zgs{π:M}(h:IsPerm π){p:List Ze}(hd:Desc p):∀ k,k<=p.length->(permAcc π (p.take k)).Perm ((p.take k).map (permT π))/\Desc (permAcc π (p.take k))
 | 0,_=>by simp[permAcc]
 | k+1,hk=>by
  obtain⟨h1,h2⟩:=Zgs h hd k (by omega)
  have hk':k<p.length:=by omega
  rw[<- List.take_append_getElem hk',Zhu]
  refine⟨?_,(Zj0 h2).1⟩
  have hnew:∀ x ∈ permAcc π (p.take k),x.m≠(permT π p[k]).m:=by
   intro x hx e
   obtain⟨y,hy,rfl⟩:=List.mem_map.1 (h1.mem_iff.1 hx)
   have hm:=Zhv h e
   obtain⟨i,hi,rfl⟩:=List.mem_iff_getElem.1 hy
   simp only[List.length_take] at hi
   rw[List.getElem_take] at hm
   exact List.pairwise_iff_getElem.1 (Zea hd) i k (by omega) hk' (by omega) hm
  refine (Zoq hnew).trans ?_
  rw[List.map_append]
  exact (h1.cons _).trans (List.perm_append_comm (l₁:=[permT π p[k]]))
theorem Zbn{π:M}(h:IsPerm π){p:List Ze}(hd:Desc p):(permP π p).Perm (p.map (permT π))/\Desc (permP π p):=by
 have:=Zgs h hd p.length (by omega)
 rwa [List.take_length] at this
theorem Zlm{π:M}(h:IsPerm π){p:List Ze}(hp:PolOk p):PolOk (permP π p):=by
 obtain⟨h1,h2⟩:=Zbn h hp.ord
 refine⟨h2,fun t ht=>?_,by rw[h1.length_eq,List.length_map]; exact hp.len⟩
 obtain⟨y,hy,rfl⟩:=List.mem_map.1 (h1.mem_iff.1 ht)
 exact⟨(hp.trm y hy).c,Zll (hp.trm y hy).m⟩
theorem ZiZ{π:M}(h:IsPerm π){p:List Ze}(hp:PolOk p):(Zfp p π).Ret (permP π p,0):=by
 have hl:=hp.len
 refine⟨true,ZhU h,?_⟩
 show (Cq.next _ _).wp _
 refine Cq.Zk p.length (fun k s=>s=(permAcc π (p.take k),(k:Int))) (fun k s hk hs=>?_) (fun s hs=>?_) (by simp[permAcc])
 .subst hs
  obtain⟨h1,h2⟩:=Zgs h hp.ord k (by omega)
  refine Cq.wp.yes (p:=(k:Int)<(p.length:Int)) (by omega) ?_
  refine (Zm8 h hk).then ?_
  refine⟨p[k],idxN hk,_,ZhZ (by rw[h1.length_eq,List.length_map,List.length_take]; omega) (fun x hx e=>?_),?_⟩
  .obtain⟨y,hy,rfl⟩:=List.mem_map.1 (h1.mem_iff.1 hx)
   have hm:=Zhv h e
   obtain⟨i,hi,rfl⟩:=List.mem_iff_getElem.1 hy
   simp only[List.length_take] at hi
   rw[List.getElem_take] at hm
   exact absurd hm (List.pairwise_iff_getElem.1 (Zea hp.ord) i k (by omega) hk (by omega))
  show _=_
  rw[wrapN (by omega),<- List.take_append_getElem hk,Zhu]
  rfl
 subst hs
 refine Cq.wp.no (p:=((p.length:Nat):Int)<(p.length:Int)) (by omega) ?_
 show _=_
 rw[List.take_length]; rfl
end Go.EL

namespace Go.EL
open Go.IntKind (i8 i16 i32 i64 u8 u16 u32 u64)
open Go Go.RowKit
theorem Zpt:(between 0 100 fun n=>match (Zb9 (u64.wrap n)).ev 30 with|some v=>decide (0<=v/\v<1000000)|none=>false)=true:=by decide +kernel
theorem Zpu{n:Nat}(h:n<=100):∃ v,(Zb9 (u64.wrap (n:Int))).Ret v/\0<=v/\v<1000000:=by
 have:=Z4 Zpt (x:=(n:Int)) (by omega) (by omega)
 split at this
 .rename_i v hv
  have:=of_decide_eq_true this
  exact⟨v,Cq.Ret.Zm3 30 hv,this.1,this.2⟩
 cases this
theorem Zpe{p:List Ze}(h:Desc p){x y:Ze}(hx:x ∈ p)(hy:y ∈ p)(e:x.m=y.m):x=y:=by
 obtain⟨i,hi,rfl⟩:=List.mem_iff_getElem.1 hx
 obtain⟨j,hj,rfl⟩:=List.mem_iff_getElem.1 hy
 have key:=List.pairwise_iff_getElem.1 (Zea h)
 rcases Nat.lt_trichotomy i j with hij|hij|hij
 .exact absurd e (key i j hi hj hij)
 .subst hij; rfl
 exact absurd e.symm (key j i hj hi hij)
theorem Zj5{p:List Ze}(h:Desc p):p.Pairwise fun x y=>¬ cmpM x.m y.m<0:=h.imp fun hp=>by omega
theorem Zjk{p ys:List Ze}(hd:Desc p)(hp:ys.Perm p)(hs:ys.Pairwise fun x y=>¬ cmpM x.m y.m<0):ys=p:=
 List.Perm.eq_of_pairwise (le:=fun x y:Ze=>¬ cmpM x.m y.m<0) (fun a b ha hb h1 h2=>by
  have:=ZbH a.m b.m
  exact Zpe hd (hp.mem_iff.1 ha) hb (Ze2 (by omega))) hs (Zj5 hd) hp
theorem ZkY{p l:List Ze}(hd:Desc p)(hl:p.length<=100)(hp:l.Perm p):(ZC l).Ret p:=by
 have e:=hp.length_eq
 obtain⟨v,h1,h2,h3⟩:=Zpu (n:=l.length) (by omega)
 refine⟨v,h1,p,?_,rfl⟩
 refine⟨⟨rfl,rfl,⟨h2,h3⟩,by omega⟩,fun ys ⟨k1,k2⟩=>?_⟩
 exact Zjk hd (k1.trans hp) k2
def termOf(q:M×Zm):Ze:=⟨q.2,q.1⟩
theorem Zne{p:List Ze}(hp:PolOk p){D:List (M×Zm)}(hD:(D.map termOf).Perm p):(Zb2 D).Ret p:=by
 have hl:=hp.len
 have e:=hD.length_eq
 rw[List.length_map] at e
 refine⟨⟨by omega,by omega⟩,?_⟩
 show (Cq.next _ _).wp _
 refine Cq.ZeJ (fun s=>(s.1++s.2.map termOf).Perm p) (fun s=>s.2.length) (fun s hs=>?_) _ (by simpa using hD)
 obtain⟨rv,R⟩:=s
 simp only at hs
 have hlen:=hs.length_eq
 simp only[List.length_append,List.length_map] at hlen
 refine⟨fun hR=>?_,fun R1 q R2 hR=>?_⟩
 .subst hR
  rw[List.map_nil,List.append_nil] at hs
  exact⟨_,ZkY hp.ord hl hs,rfl⟩
 subst hR
 have hmem:termOf q ∈ p:=hs.mem_iff.1 (by simp)
 obtain⟨s,h1,h2⟩:=(hp.trm _ hmem).ps
 refine⟨s,h1,?_⟩
 rw[Cq.Zd,if_pos h2]
 simp only[List.length_append,List.length_cons] at hlen
 refine⟨by simp[small]; omega,?_,?_⟩
 .refine List.Perm.trans ?_ hs
  simp only[List.map_append,List.map_cons,List.append_assoc,List.singleton_append]
  refine List.Perm.append_left rv ?_
  exact (List.perm_middle (a:=termOf q) (l₁:=R1.map termOf) (l₂:=R2.map termOf)).symm
 show (R1++R2).length<(R1++q::R2).length
 simp
theorem Zqj{m:M}(h:Ok m):∀ i,(Lit.int i64 (m i)).wf=true:=fun i=>by
 have:=h i
 simp only[Lit.wf,Bool.and_eq_true,decide_eq_true_eq]
 exact⟨Int.le_trans (by decide) this.1,Int.le_trans this.2 (by decide)⟩
def pairT(π:M)(t:Ze):M×Zm:=(permM π t.m,t.c)
theorem ZlJ{π:M}(h:IsPerm π){p:List Ze}(hp:PolOk p):(ZbN p π).Ret (permP π p,0):=by
 have hl:=hp.len
 show (Cq.next _ _).wp _
 refine Cq.Zk 8 (fun k s=>∃ bx:Fin 8->Bool,s=((k:Int),bx)/\∀ j,bx j=true->∃ i:Fin 8,i.val<k/\(j.val:Int)=π i) (fun k s hk hs=>?_) (fun s hs=>?_) ⟨_,rfl,fun j hj=>by cases hj⟩
 .obtain⟨bx,rfl,hb⟩:=hs
  have r:=h.rng ⟨k,hk⟩
  refine Cq.wp.yes (p:=(k:Int)<8) (by omega) ?_
  refine⟨by omega,?_⟩
  rw[getFN hk,Cq.Zd,if_neg (by omega),Cq.Zd,if_neg (by omega)]
  refine⟨r,?_⟩
  rw[Cq.Zd,if_neg (Zmv h hk hb)]
  refine⟨r,?_⟩
  rw[wrapN (by omega)]
  exact⟨_,rfl,Zkl h hk hb⟩
 obtain⟨bx,rfl,hb⟩:=hs
 refine Cq.wp.no (p:=((8:Nat):Int)<8) (by omega) ?_
 show (Zaw p π).wp _
 show (Cq.next _ _).wp _
 refine Cq.Zk p.length (fun k s=>s=((k:Int),(p.take k).map (pairT π))) (fun k s hk hs=>?_) (fun s hs=>?_) (by simp)
 .subst hs
  refine Cq.wp.yes (p:=(k:Int)<(p.length:Int)) (by omega) ?_
  refine⟨p[k],idxN hk,?_⟩
  refine (ZnV h p[k]).then ?_
  have hput:mput ((p.take k).map (pairT π)) (permM π p[k].m) p[k].c=(p.take (k+1)).map (pairT π):=by
   rw[Zdq,<- List.take_append_getElem hk,List.map_append]
   .rfl
   intro q hq e
   obtain⟨y,hy,rfl⟩:=List.mem_map.1 hq
   have hm:=Zhv h e
   obtain⟨i,hi,rfl⟩:=List.mem_iff_getElem.1 hy
   simp only[List.length_take] at hi
   rw[List.getElem_take] at hm
   exact List.pairwise_iff_getElem.1 (Zea hp.ord) i k (by omega) hk (by omega) hm
  refine⟨⟨Zqj (Zll (hp.at hk).m),?_⟩,?_⟩
  .rw[hput,List.length_map,List.length_take]; simp only[small]; omega
  show _=_
  rw[hput,wrapN (by omega)]
 subst hs
 refine Cq.wp.no (p:=((p.length:Nat):Int)<(p.length:Int)) (by omega) ?_
 refine⟨permP π p,Zne (Zlm h hp) ?_,rfl⟩
 rw[List.take_length,List.map_map]
 exact (Zbn h hp.ord).1.symm
end Go.EL

namespace Go.EL
open Go.IntKind (i8 i16 i32 i64 u8 u16 u32 u64)
open Go Go.RowKit
theorem Zkt{n:Int}(h1:-8<=n)(h2:n<=8):(ZdH n).Ret (ratI n):=Za5 (Z4 Zoi h1 h2)
theorem mul_zero(m:M):mulM (fun _=>0) m=m:=by funext i; simp[mulM]
theorem Znr{c:Int}(h1:-3<=c)(h2:c<=3){m:M}(hm:Ok m):(ZgV (ratI c) [⟨ratI 1,m⟩]).Ret (if c=0 then [] else [⟨ratI c,m⟩]):=by
 have hs:=Za5 (Z4 ZiN (x:=c) (by omega) (by omega))
 by_cases h0:c=0
 .subst h0
  rw[if_pos rfl]
  refine⟨([],0),⟨_,hs,?_⟩,rfl⟩
  rw[Cq.Zd,if_pos (by decide)]
  rfl
 rw[if_neg h0]
 refine⟨([⟨ratI c,m⟩],0),⟨_,hs,?_⟩,rfl⟩
 rw[Cq.Zd,if_neg (by split <;> first|omega|(split <;> omega))]
 show (Cq.next _ _).wp _
 refine Cq.Zk 1 (fun k s=>s=((if k=0 then [] else [⟨ratI c,m⟩]),(k:Int))) (fun k s hk hs=>?_) (fun s hs=>?_) rfl
 .obtain rfl:k=0:=by omega
  subst hs
  refine⟨⟨ratI 1,m⟩,⟨by omega,rfl⟩,(m,0),?_,?_⟩
  .have:=ZlN (a:=fun _=>0) (b:=m) (fun _=>⟨Int.le_refl 0,show (0:Int)<=65535 by decide⟩) hm (by rw[mul_zero]; exact hm)
   rwa [mul_zero] at this
  rw[Cq.Zd,if_neg (fun h=>h rfl)]
  exact⟨⟨ratI 1,m⟩,⟨by omega,rfl⟩,_,Za5 (Z4 Zpw h1 h2),by simp[small],rfl⟩
 subst hs
 rfl
def RawOk(x:ZE):Prop:=∀ v ∈ x.t,∀ j:Fin 5,-128<=v j/\v j<=127
structure MadeOk (K:Int) (n:Nat) (d:Int) (k:Nat) (p:List Ze):Prop where
 ord:Desc p
 cof:∀ t ∈ p,∃ c:Int,t.c=ratI c/\c≠0/\-K<=c/\c<=K
 mon:∀ t ∈ p,(∀ i,0<=t.m i)/\(∀ i:Fin 8,n<=i.val->t.m i=0)/\degM t.m<=d
 len:p.length<=k
theorem Ziw{m:M}(h:∀ i,0<=m i):∀ k,k<=8->0<=degTo m k/\∀ i:Fin 8,i.val<k->m i<=degTo m k
 | 0,_=>by simp[degTo]
 | k+1,hk=>by
  obtain⟨h1,h2⟩:=Ziw h k (by omega)
  have hk':k<8:=by omega
  have:=h ⟨k,hk'⟩
  simp only[degTo,dif_pos hk']
  refine⟨by omega,fun i hi=>?_⟩
  by_cases e:i.val=k
  .have:i=⟨k,hk'⟩:=Fin.ext e
   subst this; omega
  have:=h2 i (by omega); omega
theorem Zkh{m:M}(h:∀ i,0<=m i){d:Int}(hd:degM m<=d)(h2:d<=65535):Ok m:=fun i=>by
 have:=(Ziw h 8 (by omega)).2 i i.isLt
 unfold degM at hd
 exact⟨h i,by omega⟩
theorem MadeOk.pol{K:Int}{n:Nat}{d:Int}{k:Nat}{p:List Ze}(h:MadeOk K n d k p)(hK:K<=12)(hd:d<=100)(hk:k<=100):PolOk p:=
 ⟨h.ord,fun t ht=>⟨by obtain⟨c,e,h0,h1,h2⟩:=h.cof t ht; exact⟨c,e,h0,by omega,by omega⟩,Zkh (h.mon t ht).1 (h.mon t ht).2.2 (by omega)⟩,by have:=h.len; omega⟩
theorem Zk0{p:List Ze}{t y:Ze}:y ∈ addT p t->y ∈ p\/y=t\/∃ x ∈ p,x.m=t.m/\valR x.c+valR t.c≠0/\y=⟨ratI (valR x.c+valR t.c),x.m⟩:=by
 induction p with
 | nil=>intro h; simp[addT] at h; exact .inr (.inl h)
 | cons x xs ih=>
  intro h
  simp only[addT] at h
  split at h
  .rcases List.mem_cons.1 h with rfl|h
   .exact .inl (by simp)
   rcases ih h with h|h|⟨z,h1,h2⟩
   .exact .inl (by simp[h])
   .exact .inr (.inl h)
   exact .inr (.inr ⟨z,by simp[h1],h2⟩)
  split at h
  .rcases List.mem_cons.1 h with rfl|h
   .exact .inr (.inl rfl)
   exact .inl h
  have hm:x.m=t.m:=Ze2 (by omega)
  split at h
  .exact .inl (by simp[h])
  rename_i hne
  rcases List.mem_cons.1 h with rfl|h
  .exact .inr (.inr ⟨x,by simp,hm,hne,rfl⟩)
  exact .inl (by simp[h])
theorem MadeOk.add{K:Int}{n:Nat}{d:Int}{k:Nat}{p:List Ze}(h:MadeOk K n d k p){c:Int}{m:M}(hK:0<=K)(h0:c≠0)(h1:-3<=c)(h2:c<=3)(hm:(∀ i,0<=m i)/\(∀ i:Fin 8,n<=i.val->m i=0)/\degM m<=d):
  MadeOk (K+3) n d (k+1) (addT p ⟨ratI c,m⟩):=by
 refine⟨(Zj0 h.ord).1,fun t ht=>?_,fun t ht=>?_,by have:=Zh8 p ⟨ratI c,m⟩; have:=h.len; omega⟩
 .rcases Zk0 ht with ht|rfl|⟨x,hx,hxm,hne,rfl⟩
  .obtain⟨a,e,k0,k1,k2⟩:=h.cof t ht
   exact⟨a,e,k0,by omega,by omega⟩
  .exact⟨c,rfl,h0,by omega,by omega⟩
  obtain⟨a,e,k0,k1,k2⟩:=h.cof x hx
  simp only[ZhF,e] at hne ⊢
  exact⟨a+c,rfl,hne,by omega,by omega⟩
 rcases Zk0 ht with ht|rfl|⟨x,hx,hxm,hne,rfl⟩
 .exact h.mon t ht
 .exact hm
 exact h.mon x hx
theorem MadeOk.grow{K K':Int}{n:Nat}{d:Int}{k k':Nat}{p:List Ze}(h:MadeOk K n d k p)(h1:K<=K')(h2:k<=k'):MadeOk K' n d k' p:=
 ⟨h.ord,fun t ht=>by obtain⟨a,e,k0,k1,k2⟩:=h.cof t ht; exact⟨a,e,k0,by omega,by omega⟩,h.mon,by have:=h.len; omega⟩
theorem MadeOk.near{K:Int}{n:Nat}{d:Int}{k:Nat}{p:List Ze}(h:MadeOk K n d k p)(hK:K<=12){c:Int}{m:M}(h1:-3<=c)(h2:c<=3):Near p ⟨ratI c,m⟩:=fun x hx _=>by
 obtain⟨a,e,k0,k1,k2⟩:=h.cof x hx
 exact⟨a,c,e,rfl,by omega,by omega,h1,h2⟩
def absI(n:Int):Int:=if n<0 then -n else n
theorem Zo8{n:Int}(h1:-128<=n)(h2:n<=127):(ZhJ n).Ret (absI n):=by
 unfold ZhJ absI
 by_cases h:n<0
 .rw[if_pos h,if_pos h]
  show _=_
  simp (disch:=omega) only[wrap64]
  omega
 rw[if_neg h,if_neg h]
 exact wrap64 (by omega)
theorem ZaC{a b:Int}(ha:0<=a)(hb:0<b):0<=Int.tmod a b/\Int.tmod a b<b:=by
 rw[Int.tmod_eq_emod_of_nonneg ha]
 exact⟨Int.emod_nonneg _ (by omega),Int.emod_lt_of_pos _ hb⟩
theorem tmod4{a:Int}(h1:-128<=a)(h2:a<=127):-3<=Int.tmod a 4/\Int.tmod a 4<=3:=by
 by_cases h:0<=a
 .have:=ZaC (b:=4) h (by omega); omega
 have:=ZaC (a:=-a) (b:=4) (by omega) (by omega)
 rw[Int.neg_tmod] at this
 omega
def rawTo(v:Fin 5->Int)(d:Int):Nat->Int×M
 | 0=>(d,fun _=>0)
 | j+1=>((rawTo v d j).1-Int.tmod (absI (getF v ((j+1:Nat):Int))) ((rawTo v d j).1+1),setF (rawTo v d j).2 j (Int.tmod (absI (getF v ((j+1:Nat):Int))) ((rawTo v d j).1+1)))
theorem ZiL{v:Fin 5->Int}{d:Int}(hd:0<=d):∀ j,j<=4->0<=(rawTo v d j).1/\(∀ i,0<=(rawTo v d j).2 i)/\(∀ i:Fin 8,j<=i.val->(rawTo v d j).2 i=0)/\degM (rawTo v d j).2+(rawTo v d j).1=d
 | 0,_=>⟨hd,fun _=>Int.le_refl 0,fun _ _=>rfl,by simp[rawTo,degM,degTo]⟩
 | j+1,hj=>by
  obtain⟨h0,h1,h2,h3⟩:=ZiL (v:=v) hd j (by omega)
  have ha:0<=absI (getF v ((j+1:Nat):Int)):=by unfold absI; split <;> omega
  have hm:=ZaC ha (show 0<(rawTo v d j).1+1 by omega)
  simp only[rawTo]
  refine⟨by omega,fun i=>?_,fun i hi=>?_,?_⟩
  .simp only[setF]; split
   .exact hm.1
   exact h1 i
  .simp only[setF]; rw[if_neg (by omega)]; exact h2 i (by omega)
  unfold degM at h3 ⊢
  rw[Zhb _ _ _ 8 (by omega),dif_pos (by omega),if_pos (by omega),h2 _ (by simp)]
  omega
def rawM(v:Fin 5->Int)(d:Int)(n:Nat):M:=(rawTo v d n).2
theorem Zmp{v:Fin 5->Int}{d:Int}(hd:0<=d){n:Nat}(hn:n<=4):(∀ i,0<=rawM v d n i)/\(∀ i:Fin 8,n<=i.val->rawM v d n i=0)/\degM (rawM v d n)<=d:=by
 obtain⟨h0,h1,h2,h3⟩:=ZiL (v:=v) hd n hn
 exact⟨h1,h2,by unfold rawM; omega⟩
theorem Zno{x:ZE}(hx:RawOk x){n:Nat}(hn:n<=4){d:Int}(hd0:0<=d)(hd:d<=100){k:Nat}(hk:k<x.t.length):
  (Zh0 x (n:Int) (k:Int) (d,0,fun _=>0)).Ret (rawM x.t[k] d n):=by
 refine Cq.Zk n (fun j s=>s=((rawTo x.t[k] d j).1,(j:Int),(rawTo x.t[k] d j).2)) (fun j s hj hs=>?_) (fun s hs=>?_) rfl
 .subst hs
  obtain⟨h0,h1,h2,h3⟩:=ZiL (v:=x.t[k]) hd0 j (by omega)
  have hb:=(Ziw h1 8 (by omega)).1
  have hj8:j<8:=by omega
  have hr:=hx _ (List.getElem_mem hk)
  show (if (j:Int)<(n:Int) then _ else _:Cq _).wp _
  rw[Cq.Zd,if_pos (by omega),Cq.Zd,if_pos (by omega)]
  have hw:i64.wrap (1+(j:Int))=((j+1:Nat):Int):=by rw[wrap64 (by omega)]; omega
  have hw2:i64.wrap ((rawTo x.t[k] d j).1+1)=(rawTo x.t[k] d j).1+1:=wrap64 (by unfold degM at h3; omega)
  rw[hw,hw2]
  have hg:getF x.t[k] ((j+1:Nat):Int)=x.t[k] ⟨j+1,by omega⟩:=ZfV _ (by simp; omega)
  have hm:=ZaC (a:=absI (getF x.t[k] ((j+1:Nat):Int))) (b:=(rawTo x.t[k] d j).1+1) (by unfold absI; split <;> omega) (by omega)
  refine⟨x.t[k],idxN hk,by omega,_,Zo8 (by rw[hg]; exact (hr _).1) (by rw[hg]; exact (hr _).2),by omega,by omega,by omega,?_⟩
  show _=_
  have hs8:∀ e:Int,getF (setF (rawTo x.t[k] d j).2 (j:Int).toNat e) (j:Int)=e:=fun e=>by rw[getFN hj8]; simp[setF]
  rw[hs8,wrapN (by omega),wrap64 (by unfold degM at h3; omega)]
  rfl
 subst hs
 refine Cq.wp.no (p:=(n:Int)<(n:Int)) (by omega) ?_
 rfl
def madeTo(x:ZE)(n:Nat)(d:Int):Nat->List Ze
 | 0=>[]
 | k+1=>match x.t[k]? with
  | some v=>if Int.tmod (getF v 0) 4=0 then madeTo x n d k else addT (madeTo x n d k) ⟨ratI (Int.tmod (getF v 0) 4),rawM v d n⟩
  | none=>madeTo x n d k
theorem raw0{x:ZE}(hx:RawOk x){v:Fin 5->Int}(hv:v ∈ x.t):-3<=Int.tmod (getF v 0) 4/\Int.tmod (getF v 0) 4<=3:=by
 have:=hx v hv 0
 rw[ZfV v (by decide)]
 exact tmod4 this.1 this.2
theorem Zhn{x:ZE}(hx:RawOk x){n:Nat}(hn:n<=4){d:Int}(hd:0<=d):∀ k:Nat,MadeOk (3*k) n d k (madeTo x n d k)
 | 0=>⟨List.Pairwise.nil,fun t ht=>by simp[madeTo] at ht,fun t ht=>by simp[madeTo] at ht,by simp[madeTo]⟩
 | k+1=>by
  have ih:=Zhn hx hn hd k
  simp only[madeTo]
  split
  .rename_i v hv
   have hr:=raw0 hx (List.mem_of_getElem? hv)
   split
   .exact ih.grow (by omega) (by omega)
   rename_i h0
   exact (ih.add (by omega) h0 hr.1 hr.2 (Zmp hd hn)).grow (by omega) (by omega)
  exact ih.grow (by omega) (by omega)
def madeP(x:ZE)(n:Nat)(d:Int)(k:Nat):List Ze:=madeTo x n d (min k x.t.length)
theorem ZoI{x:ZE}(hx:RawOk x){n:Nat}(hn:n<=4){d:Int}(hd:0<=d)(k:Nat):MadeOk (3*k) n d k (madeP x n d k):=(Zhn hx hn hd _).grow (by omega) (by omega)
theorem Zon{x:ZE}(hx:RawOk x){n:Nat}(hn:n<=4){d:Int}(hd0:0<=d)(hd:d<=100){k:Nat}(hk:k<=4):(Zio x (n:Int) d (k:Int)).Ret (madeP x n d k):=by
 refine Cq.Zk (min k x.t.length) (fun j s=>s=(madeTo x n d j,(j:Int))) (fun j s hj hs=>?_) (fun s hs=>?_) rfl
 .subst hs
  have hj':j<x.t.length:=by omega
  have ih:=Zhn hx hn hd0 j
  have hr:=raw0 hx (List.getElem_mem hj')
  show (if (j:Int)<(x.t.length:Int) then _ else _:Cq _).wp _
  rw[Cq.Zd,if_pos (by omega),Cq.Zd,if_pos (by omega)]
  show (Cq.next _ _).wp _
  refine (Zno hx hn hd0 hd hj').then ?_
  have hw:i64.wrap (Int.tmod (getF x.t[j] 0) 4)=Int.tmod (getF x.t[j] 0) 4:=wrap64 (by omega)
  have hm:=Zmp (v:=x.t[j]) hd0 hn
  refine⟨x.t[j],idxN hj',_,(by rw[hw]; exact Zkt (by omega) (by omega)),_,Zkt (by omega) (by omega),_,Znr hr.1 hr.2 (Zkh hm.1 hm.2.2 (by omega)),?_⟩
  have hlen:=ih.len
  by_cases h0:Int.tmod (getF x.t[j] 0) 4=0
  .rw[if_pos h0]
   refine⟨_,ZlO (by omega),?_⟩
   show _=_
   rw[wrapN (by omega)]
   simp only[madeTo,List.getElem?_eq_getElem hj',if_pos h0]
  rw[if_neg h0]
  refine⟨_,ZhZ (by omega) (ih.near (by omega) hr.1 hr.2),?_⟩
  show _=_
  rw[wrapN (by omega)]
  simp only[madeTo,List.getElem?_eq_getElem hj',if_neg h0]
 subst hs
 show (if ((min k x.t.length:Nat):Int)<(x.t.length:Int) then _ else _:Cq _).wp _
 by_cases h:min k x.t.length<x.t.length
 .rw[Cq.Zd,if_pos (by omega),Cq.Zd,if_neg (by omega)]
  rfl
 rw[Cq.Zd,if_neg (by omega)]
 rfl
end Go.EL

namespace Go.EL
open Go.IntKind (i8 i16 i32 i64 u8 u16 u32 u64)
open Go Go.RowKit
def letterB(b:Int):Bool:=decide (65<=b/\b<=90) || decide (97<=b/\b<=122)
def restB(b:Int):Bool:=decide (48<=b/\b<=57) || decide (b=95)
def charB(i:Nat)(b:Int):Bool:=letterB b || (decide (0<i) && restB b)
def nameB(s:ByteArray):Bool:=decide (1<=s.size/\s.size<=12) && (List.range s.size).all fun i=>charB i (byteAt s (i:Int))
theorem ZhP{s:ByteArray}{i:Nat}(hi:i<s.size)(h:charB i (byteAt s (i:Int))=false):nameB s=false:=by
 unfold nameB
 rw[Bool.and_eq_false_iff]
 right
 rw[List.all_eq_false]
 exact⟨i,List.mem_range.2 hi,by rw[h]; decide⟩
theorem Zlh{s:ByteArray}(h1:1<=s.size/\s.size<=12)(h:∀ i,i<s.size->charB i (byteAt s (i:Int))=true):nameB s=true:=by
 unfold nameB
 rw[decide_eq_true h1,Bool.true_and,List.all_eq_true]
 exact fun i hi=>h i (List.mem_range.1 hi)
theorem Zja(b:Int):(ZcK b).Ret (letterB b):=by
 unfold ZcK letterB
 by_cases h1:65<=b <;> by_cases h2:b<=90 <;> by_cases h3:97<=b <;> simp[h1,h2,h3] <;> first|rfl|omega
theorem ZmY(b:Int):(Zcc b).Ret (restB b):=by
 unfold Zcc restB
 by_cases h1:48<=b <;> by_cases h2:b<=57 <;> simp[h1,h2] <;> first|rfl|omega
theorem Zim(s:ByteArray):(Zdg s).Ret (nameB s):=by
 unfold Zdg
 by_cases h1:(s.size:Int)<1
 .rw[if_pos h1]
  show false=nameB s
  unfold nameB
  rw[decide_eq_false (by omega),Bool.false_and]
 rw[if_neg h1]
 by_cases h2:12<(s.size:Int)
 .rw[if_pos h2]
  show false=nameB s
  unfold nameB
  rw[decide_eq_false (by omega),Bool.false_and]
 rw[if_neg h2]
 refine⟨by omega,_,Zja _,?_⟩
 rw[Cq.Zd]
 cases h3:letterB (byteAt s 0) with
 | false=>
  rw[if_pos (by decide)]
  exact (ZhP (i:=0) (by omega) (by unfold charB; rw[show ((0:Nat):Int)=0 from rfl,h3]; simp)).symm
 | true=>
  rw[if_neg (by decide)]
  show (Cq.next _ _).wp _
  refine Cq.Zk (s.size-1) (fun k st=>st=((k+1:Nat):Int)/\∀ i,i<k+1->charB i (byteAt s (i:Int))=true) (fun k st hk hs=>?_) (fun st hs=>?_) ⟨rfl,fun i hi=>?_⟩
  .obtain⟨rfl,hi⟩:=hs
   have hstep:∀ {b:Int},b=byteAt s ((k+1:Nat):Int)->charB (k+1) b=true->∀ i,i<k+1+1->charB i (byteAt s (i:Int))=true:=by
    intro b hb hc i hik
    by_cases e:i=k+1
    .subst e; rw[<- hb]; exact hc
    exact hi i (by omega)
   rw[Cq.Zd,if_pos (by omega)]
   refine⟨by omega,_,Zja _,?_⟩
   cases h4:letterB (byteAt s ((k+1:Nat):Int)) with
   | true=>exact⟨wrapN (by omega),hstep rfl (by unfold charB; rw[h4]; rfl)⟩
   | false=>
    have hno:restB (byteAt s ((k+1:Nat):Int))=false->false=nameB s:=fun h=>(ZhP (i:=k+1) (by omega) (by unfold charB; rw[h4,h]; simp)).symm
    have hyes:restB (byteAt s ((k+1:Nat):Int))=true->∀ i,i<k+1+1->charB i (byteAt s (i:Int))=true:=fun h=>hstep rfl (by unfold charB; rw[h4,h]; simp)
    refine⟨by omega,?_⟩
    rw[Cq.Zd]
    unfold restB at hno hyes
    split
    .refine⟨by omega,?_⟩
     rw[Cq.Zd]
     split
     .rename_i a b
      exact⟨wrapN (by omega),hyes (by rw[decide_eq_true ⟨a,b⟩]; rfl)⟩
     rename_i a b
     refine⟨by omega,?_⟩
     rw[Cq.Zd]
     split
     .rename_i c
      exact hno (by rw[decide_eq_false (fun h=>b h.2),decide_eq_false c]; rfl)
     rename_i c
     exact⟨wrapN (by omega),hyes (by rw[decide_eq_true (Classical.not_not.1 c)]; simp)⟩
    rename_i a
    refine⟨by omega,?_⟩
    rw[Cq.Zd]
    split
    .rename_i c
     exact hno (by rw[decide_eq_false (fun h=>a h.1),decide_eq_false c]; rfl)
    rename_i c
    exact⟨wrapN (by omega),hyes (by rw[decide_eq_true (Classical.not_not.1 c)]; simp)⟩
  .obtain⟨rfl,hi⟩:=hs
   rw[Cq.Zd,if_neg (by omega)]
   exact (Zlh (by omega) fun i hik=>hi i (by omega)).symm
  obtain rfl:i=0:=by omega
  unfold charB
  rw[show ((0:Nat):Int)=0 from rfl,h3]; rfl
theorem Zlc(s:ByteArray)(i:Nat):((s.get! i).toNat:Int)=byteAt s (i:Int):=by
 unfold byteAt
 simp only[Int.toNat_natCast]
 congr 2
theorem ZmV{s:ByteArray}{p:Nat}(h:byteAt s (p:Int)<128):((Utf8.decode s p).1:Int)=byteAt s (p:Int)/\(Utf8.decode s p).2=1:=by
 have hb:=Zlc s p
 unfold Utf8.decode
 simp only[Nat.add_zero]
 rw[if_pos (by omega)]
 exact⟨hb,rfl⟩
theorem decode_high{s:ByteArray}{p:Nat}(h:128<=byteAt s (p:Int)):128<=((Utf8.decode s p).1:Int):=by
 have hb:=Zlc s p
 unfold Utf8.decode
 simp only[Nat.add_zero,Utf8.runeError]
 rw[if_neg (by omega)]
 split
 .split
  .rename_i h; omega
  omega
 split
 .split
  .rename_i h; simp at h; omega
  omega
 split
 .split
  .rename_i h; simp at h; omega
  omega
 omega
theorem ZfF{b:Int}(h:128<=b):letterB b=false:=by unfold letterB; rw[decide_eq_false (by omega),decide_eq_false (by omega)]; rfl
theorem Zhy{b:Int}(h:128<=b):restB b=false:=by unfold restB; rw[decide_eq_false (by omega),decide_eq_false (by omega)]; rfl
theorem Zgp(s:ByteArray):(Zcb s).Ret (nameB s):=by
 unfold Zcb
 by_cases h1:(s.size:Int)<1
 .rw[if_pos h1]
  show false=nameB s
  unfold nameB
  rw[decide_eq_false (by omega),Bool.false_and]
 rw[if_neg h1]
 by_cases h2:12<(s.size:Int)
 .rw[if_pos h2]
  show false=nameB s
  unfold nameB
  rw[decide_eq_false (by omega),Bool.false_and]
 rw[if_neg h2]
 show (Cq.next _ _).wp _
 refine Cq.Zk s.size (fun k st=>st=k/\∀ i,i<k->charB i (byteAt s (i:Int))=true) (fun k st hk hs=>?_) (fun st hs=>?_) ⟨rfl,fun i hi=>by omega⟩
 .obtain⟨rfl,hi⟩:=hs
  have hstep:charB st (byteAt s (st:Int))=true->∀ i,i<st+1->charB i (byteAt s (i:Int))=true:=by
   intro hc i hik
   by_cases e:i=st
   .subst e; exact hc
   exact hi i (by omega)
  have hrune:letterB ((Utf8.decode s st).1:Int)=letterB (byteAt s (st:Int))/\restB ((Utf8.decode s st).1:Int)=restB (byteAt s (st:Int))/\(byteAt s (st:Int)<128->(Utf8.decode s st).2=1):=by
   by_cases hb:byteAt s (st:Int)<128
   .obtain⟨e1,e2⟩:=ZmV hb
    rw[e1]; exact⟨rfl,rfl,fun _=>e2⟩
   have hd:=decode_high (s:=s) (p:=st) (by omega)
   rw[ZfF hd,Zhy hd,ZfF (by omega),Zhy (by omega)]
   exact⟨rfl,rfl,fun h=>absurd h hb⟩
  obtain⟨e1,e2,e3⟩:=hrune
  have hk3:(ZQ s st (letterB ((Utf8.decode s st).1:Int))).wp (Out (fun s'=>s'=st+1/\∀ i,i<st+1->charB i (byteAt s (i:Int))=true) (fun ov=>(match ov with | .inl rv1=>Cq.ret rv1 | .inr ()=>ZaL:Cq Bool).wp fun a=>a=nameB s)):=by
   unfold ZQ
   rw[e1]
   have hlow:letterB (byteAt s (st:Int))=true\/restB (byteAt s (st:Int))=true->(Utf8.decode s st).2=1:=fun h=>e3 (by
    by_cases hb:byteAt s (st:Int)<128
    .exact hb
    rw[ZfF (by omega),Zhy (by omega)] at h; simp at h)
   cases hl:letterB (byteAt s (st:Int)) with
   | true=>
    rw[if_pos rfl]
    exact⟨by rw[hlow (.inl hl)],hstep (by unfold charB; rw[hl]; rfl)⟩
   | false=>
    rw[if_neg (by decide),Cq.Zd]
    split
    .rename_i h0
     obtain rfl:st=0:=by omega
     exact (ZhP (i:=0) (by omega) (by unfold charB; rw[hl]; simp)).symm
    rename_i h0
    refine⟨_,ZmY _,?_⟩
    rw[e2,Cq.Zd]
    cases hr:restB (byteAt s (st:Int)) with
    | false=>
     rw[if_pos (by decide)]
     exact (ZhP (i:=st) hk (by unfold charB; rw[hl,hr]; simp)).symm
    | true=>
     rw[if_neg (by decide)]
     exact⟨by rw[hlow (.inr hr)],hstep (by unfold charB; rw[hl,hr,decide_eq_true (by omega)]; rfl)⟩
  have hlet:∀ {b:Bool},letterB ((Utf8.decode s st).1:Int)=b->(ZQ s st b).wp (Out (fun s'=>s'=st+1/\∀ i,i<st+1->charB i (byteAt s (i:Int))=true) (fun ov=>(match ov with | .inl rv1=>Cq.ret rv1 | .inr ()=>ZaL:Cq Bool).wp fun a=>a=nameB s)):=fun h=>by subst h; exact hk3
  show (if st<s.size then _ else _:Cq _).wp _
  rw[Cq.Zd,if_pos hk]
  generalize ((Utf8.decode s st).1:Int)=c at *
  rw[Cq.Zd]
  split
  .rename_i a
   rw[Cq.Zd]
   split
   .rename_i b
    exact hlet (by unfold letterB; rw[decide_eq_true ⟨a,b⟩]; rfl)
   rename_i b
   rw[Cq.Zd]
   split
   .rename_i d
    refine hlet ?_
    unfold letterB
    rw[decide_eq_false (fun h=>b h.2),Bool.false_or]
    exact decide_eq_decide.2 ⟨fun h=>h.2,fun h=>⟨d,h⟩⟩
   rename_i d
   exact hlet (by unfold letterB; rw[decide_eq_false (fun h=>b h.2),decide_eq_false (fun h=>d h.1)]; rfl)
  rename_i a
  rw[Cq.Zd]
  split
  .rename_i d
   omega
  rename_i d
  exact hlet (by unfold letterB; rw[decide_eq_false (fun h=>a h.1),decide_eq_false (fun h=>d h.1)]; rfl)
 obtain⟨rfl,hi⟩:=hs
 refine Cq.wp.no (p:=s.size<s.size) (by omega) ?_
 exact (Zlh (by omega) hi).symm
end Go.EL

namespace Go.EL
open Go.IntKind (i8 i16 i32 i64 u8 u16 u32 u64)
open Go Go.RowKit
structure EqsOk (n:Nat) (next:Int) (l:List Zb):Prop where
 len:l.length<=12
 ids:∀ q ∈ l,1<=q.id/\q.id<next
 inc:l.Pairwise fun a b=>a.id<b.id
 pol:∀ q ∈ l,PolOk q.p/\fitB q.p (n:Int)=true
structure Good (s:Za):Prop where
 vars:s.vars.length<=4
 name:∀ v ∈ s.vars,nameB v=true
 diff:s.vars.Pairwise fun a b=>a≠b
 next:1<=s.next/\s.next<=1000000
 eqs:EqsOk s.vars.length s.next s.eqs
 neqs:EqsOk s.vars.length s.next s.neqs
 apart:∀ a ∈ s.eqs,∀ b ∈ s.neqs,a.id≠b.id
theorem Zef{p:List Ze}(h:PolOk p){n:Nat}(hn:n<=4)(hf:fitB p (n:Int)=true):(Zd6 p (n:Int)).Ret true:=by
 obtain⟨h1,h2⟩:=(Zgo (p:=p) (n:=n) (by omega)).1 hf
 have hw:u64.wrap (n:Int)=(n:Int):=by
  match n,hn with
  | 0,_=>rfl
  | 1,_=>rfl
  | 2,_=>rfl
  | 3,_=>rfl
  | 4,_=>rfl
 refine⟨true,ZgE h,_,ZfQ h,?_⟩
 rw[Cq.Zd,if_pos ((Zmh (by omega)).2 h2)]
 refine⟨_,ZcG h.len,by rw[hw]; omega,?_⟩
 have hu:=Zgy p
 have hs:=Zgz.2 h1
 rw[Nat.shiftRight_eq_div_pow] at hs
 have hlt:(usesP p).toNat<2 ^ n:=by
  rcases Nat.div_eq_zero_iff.1 hs with h|h
  .have:=Nat.two_pow_pos n; omega
  exact h
 show _=_
 rw[hw,wrap64 (by omega)]
 refine decide_eq_true ?_
 match n,hn with
 | 0,_=>exact Int.lt_of_lt_of_le (show usesP p<1 by simp at hlt; omega) (by decide)
 | 1,_=>exact Int.lt_of_lt_of_le (show usesP p<2 by simp at hlt; omega) (by decide)
 | 2,_=>exact Int.lt_of_lt_of_le (show usesP p<4 by simp at hlt; omega) (by decide)
 | 3,_=>exact Int.lt_of_lt_of_le (show usesP p<8 by simp at hlt; omega) (by decide)
 | 4,_=>exact Int.lt_of_lt_of_le (show usesP p<16 by simp at hlt; omega) (by decide)
theorem ZiH{n:Nat}(hn:n<=4){next:Int}{l:List Zb}(h:EqsOk n next l):(Zcg l (n:Int) next).Ret true:=by
 have hl:=h.len
 unfold Zcg
 rw[if_neg (by omega)]
 show (Cq.next _ _).wp _
 refine Cq.Zk l.length (fun k s=>s=(k:Int)) (fun k s hk hs=>?_) (fun s hs=>?_) rfl
 .subst hs
  have hid:=h.ids _ (List.getElem_mem hk)
  obtain⟨hp,hf⟩:=h.pol _ (List.getElem_mem hk)
  rw[Cq.Zd,if_pos (by omega)]
  refine⟨l[k],idxN hk,?_⟩
  rw[Cq.Zd,if_neg (by omega)]
  refine⟨l[k],idxN hk,?_⟩
  rw[Cq.Zd,if_neg (by omega),Cq.Zd]
  split
  .rename_i h0
   obtain⟨j,rfl⟩:∃ j,k=j+1:=⟨k-1,by omega⟩
   have hj:i64.wrap (((j+1:Nat):Int)-1)=(j:Int):=by rw[wrap64 (by omega)]; omega
   rw[hj]
   have:=List.pairwise_iff_getElem.1 h.inc j (j+1) (by omega) hk (by omega)
   refine⟨l[j],idxN (by omega),l[j+1],idxN hk,?_⟩
   rw[Cq.Zd,if_neg (by omega)]
   refine⟨l[j+1],idxN hk,true,Zef hp hn hf,?_⟩
   rw[Cq.Zd,if_neg (by decide)]
   exact wrapN (by omega)
  refine⟨l[k],idxN hk,true,Zef hp hn hf,?_⟩
  rw[Cq.Zd,if_neg (by decide)]
  exact wrapN (by omega)
 subst hs
 rw[Cq.Zd,if_neg (by omega)]
 rfl
theorem ZgF{s:Za}(h:Good s):(ZaS s).Ret true:=by
 have hv:=h.vars
 have hn:=h.next
 have he:=h.eqs.len
 have hne:=h.neqs.len
 unfold ZaS
 rw[if_neg (by omega),if_neg (by omega),if_neg (by omega)]
 refine⟨true,ZiH hv h.eqs,true,ZiH hv h.neqs,?_⟩
 rw[Cq.Zd,if_neg (by decide)]
 show (Cq.next _ _).wp _
 refine Cq.Zk s.vars.length (fun k st=>st=(k:Int)) (fun k st hk hs=>?_) (fun st hs=>?_) rfl
 .subst hs
  rw[Cq.Zd,if_pos (by omega)]
  show (Cq.next _ _).wp _
  refine Cq.Zk k (fun j st=>st=(j:Int)) (fun j st hj hs=>?_) (fun st hs=>?_) rfl
  .subst hs
   have:=List.pairwise_iff_getElem.1 h.diff j k (by omega) hk hj
   rw[Cq.Zd,if_pos (by omega)]
   refine⟨s.vars[k],idxN hk,s.vars[j],idxN (by omega),?_⟩
   rw[Cq.Zd,if_neg (fun e=>this e.symm)]
   exact wrapN (by omega)
  subst hs
  rw[Cq.Zd,if_neg (by omega)]
  show (ZcJ s (k:Int)).wp _
  refine⟨s.vars[k],idxN hk,_,Zim _,?_⟩
  rw[h.name _ (List.getElem_mem hk),Cq.Zd,if_neg (by decide)]
  exact wrapN (by omega)
 subst hs
 rw[Cq.Zd,if_neg (by omega)]
 show (ZcI s).wp _
 show (Cq.next _ _).wp _
 refine Cq.Zk s.eqs.length (fun k st=>st=(k:Int)) (fun k st hk hs=>?_) (fun st hs=>?_) rfl
 .subst hs
  rw[Cq.Zd,if_pos (by omega)]
  show (Cq.next _ _).wp _
  refine Cq.Zk s.neqs.length (fun j st=>st=(j:Int)) (fun j st hj hs=>?_) (fun st hs=>?_) rfl
  .subst hs
   rw[Cq.Zd,if_pos (by omega)]
   refine⟨s.eqs[k],idxN hk,s.neqs[j],idxN hj,?_⟩
   rw[Cq.Zd,if_neg (h.apart _ (List.getElem_mem hk) _ (List.getElem_mem hj))]
   exact wrapN (by omega)
  subst hs
  rw[Cq.Zd,if_neg (by omega)]
  exact wrapN (by omega)
 subst hs
 rw[Cq.Zd,if_neg (by omega)]
 rfl
def idKey(l:List Int):List (Int×Bool):=l.map fun i=>(i,true)
theorem Zkb{l:List Int}{i:Int}(h:i ∉ l):mput (idKey l) i true=idKey (l++[i])/\mget (idKey l) i=none:=by
 have hn:∀ p ∈ idKey l,p.1≠i:=fun p hp e=>by
  obtain⟨j,hj,rfl⟩:=List.mem_map.1 hp
  exact h (e ▸ hj)
 exact⟨by rw[Zdq hn]; simp[idKey],Zgr hn⟩
def idsOf(l:List Zb):List Int:=l.map (·.id)
theorem ZfW{l:List Zb}(h:l.Pairwise fun a b=>a.id<b.id){k:Nat}(hk:k<l.length):l[k].id ∉ idsOf (l.take k):=fun hm=>by
 obtain⟨q,hq,e⟩:=List.mem_map.1 hm
 obtain⟨i,hi,rfl⟩:=List.mem_iff_getElem.1 hq
 simp only[List.length_take] at hi
 rw[List.getElem_take] at e
 have:=List.pairwise_iff_getElem.1 h i k (by omega) hk (by omega)
 omega
theorem Zgi{s:Za}(hv:s.vars.length<=4)(hnx:s.next<=1000000){l:List Zb}(h:EqsOk s.vars.length s.next l){m:List Int}(hm:∀ q ∈ l,q.id ∉ m)(hml:m.length<=100):
  (Zc1 s l (0,idKey m)).Ret (.inr (idKey (m++idsOf l))):=by
 have hl:=h.len
 refine Cq.Zk l.length (fun k st=>st=((k:Int),idKey (m++idsOf (l.take k)))) (fun k st hk hs=>?_) (fun st hs=>?_) (by simp[idsOf])
 .subst hs
  have hid:=h.ids _ (List.getElem_mem hk)
  obtain⟨hp,hf⟩:=h.pol _ (List.getElem_mem hk)
  have hnew:l[k].id ∉ m++idsOf (l.take k):=fun hh=>by
   rcases List.mem_append.1 hh with hh|hh
   .exact hm _ (List.getElem_mem hk) hh
   exact ZfW h.inc hk hh
  obtain⟨hput,hget⟩:=Zkb hnew
  have hwf:(Lit.int i64 l[k].id).wf=true:=by
   simp only[Lit.wf,Bool.and_eq_true,decide_eq_true_eq]
   exact⟨Int.le_trans (by decide) hid.1,Int.le_trans (Int.le_of_lt (Int.lt_of_lt_of_le hid.2 hnx)) (by decide)⟩
  have hk5:(ZaY s (k:Int) (idKey (m++idsOf (l.take k))) l[k]).wp (Out (fun s'=>s'=(((k+1:Nat):Int),idKey (m++idsOf (l.take (k+1))))) (fun a=>a=(.inr (idKey (m++idsOf l)):Bool⊕List (Int×Bool)))):=by
   refine⟨⟨hwf,?_⟩,true,Zfe hp (by omega) |> (hf ▸ ·),?_⟩
   .rw[hput]
    simp[idKey,idsOf,small]; omega
   rw[Cq.Zd,if_neg (by decide)]
   show _=_
   have e:idsOf (l.take (k+1))=idsOf (l.take k)++[l[k].id]:=by
    unfold idsOf
    rw[<- List.take_append_getElem hk,List.map_append]
    rfl
   rw[hput,wrapN (by omega),List.append_assoc,e]
  refine Cq.wp.yes (p:=(k:Int)<(l.length:Int)) (by omega) ?_
  refine⟨l[k],idxN hk,?_⟩
  rw[Cq.Zd,if_neg (by omega),Cq.Zd,if_neg (by omega)]
  refine⟨hwf,?_⟩
  rw[hget,Cq.Zd,if_neg (by simp),Cq.Zd]
  split
  .rename_i h0
   obtain⟨j,rfl⟩:∃ j,k=j+1:=⟨k-1,by omega⟩
   have hj:i64.wrap (((j+1:Nat):Int)-1)=(j:Int):=by rw[wrap64 (by omega)]; omega
   rw[hj]
   have:=List.pairwise_iff_getElem.1 h.inc j (j+1) (by omega) hk (by omega)
   refine⟨l[j],idxN (by omega),?_⟩
   rw[Cq.Zd,if_neg (by omega)]
   exact hk5
  exact hk5
 subst hs
 show (if ((l.length:Nat):Int)<(l.length:Int) then _ else _:Cq _).wp _
 rw[Cq.Zd,if_neg (by omega),List.take_length]
 rfl
def nameKey(l:List ByteArray):List (ByteArray×Bool):=l.map fun i=>(i,true)
theorem Zig{l:List ByteArray}{i:ByteArray}(h:i ∉ l):mput (nameKey l) i true=nameKey (l++[i])/\mget (nameKey l) i=none:=by
 have hn:∀ p ∈ nameKey l,p.1≠i:=fun p hp e=>by
  obtain⟨j,hj,rfl⟩:=List.mem_map.1 hp
  exact h (e ▸ hj)
 exact⟨by rw[Zdq hn]; simp[nameKey],Zgr hn⟩
theorem Zkf{v:ByteArray}(h:nameB v=true):v.size<=12:=by
 unfold nameB at h
 rw[Bool.and_eq_true,decide_eq_true_eq] at h
 exact h.1.2
theorem Zns{s:Za}(h:Good s):(ZaZ s).Ret true:=by
 have he:=h.eqs.len
 show (Cq.next _ _).wp _
 refine Cq.Zk 2 (fun k st=>st=((k:Int),idKey (if k=0 then [] else if k=1 then idsOf s.eqs else idsOf s.eqs++idsOf s.neqs))) (fun k st hk hs=>?_) (fun st hs=>?_) rfl
 .subst hs
  rcases (show k=0\/k=1 by omega) with rfl|rfl
  .refine⟨s.eqs,⟨by omega,rfl⟩,?_⟩
   rw[Cq.Zd,if_neg (by omega)]
   show (Cq.next _ _).wp _
   refine (Zgi h.vars h.next.2 h.eqs (m:=[]) (fun _ _=>by simp) (by simp)).then ?_
   rfl
  have hne:=h.neqs.len
  refine⟨s.neqs,⟨by omega,rfl⟩,?_⟩
  rw[Cq.Zd,if_neg (by omega)]
  show (Cq.next _ _).wp _
  refine (Zgi h.vars h.next.2 h.neqs (m:=idsOf s.eqs) (fun q hq hm=>?_) (by simp[idsOf]; omega)).then ?_
  .obtain⟨a,ha,e⟩:=List.mem_map.1 hm
   exact h.apart a ha q hq e
  rfl
 subst hs
 rfl
theorem Zbv{s:Za}(h:Good s):(Z7 s).Ret true:=by
 have hv:=h.vars
 have hn:=h.next
 unfold Z7
 rw[if_neg (by omega),if_neg (by omega),if_neg (by omega)]
 show (Cq.next _ _).wp _
 refine Cq.Zk s.vars.length (fun k st=>st=((k:Int),nameKey (s.vars.take k))) (fun k st hk hs=>?_) (fun st hs=>?_) rfl
 .subst hs
  have hnew:s.vars[k] ∉ s.vars.take k:=fun hm=>by
   obtain⟨i,hi,e⟩:=List.mem_iff_getElem.1 hm
   simp only[List.length_take] at hi
   rw[List.getElem_take] at e
   exact List.pairwise_iff_getElem.1 h.diff i k (by omega) hk (by omega) e
  obtain⟨hput,hget⟩:=Zig hnew
  have hnm:=h.name _ (List.getElem_mem hk)
  have hsz:=Zkf hnm
  refine Cq.wp.yes (p:=(k:Int)<(s.vars.length:Int)) (by omega) ?_
  refine⟨s.vars[k],idxN hk,true,hnm ▸ Zgp _,by omega,?_⟩
  rw[hget,Cq.Zd,if_neg (by simp),hput]
  refine⟨⟨by omega,by simp[nameKey,small]; omega⟩,?_⟩
  show _=_
  rw[wrapN (by omega),List.take_append_getElem hk]
 subst hs
 refine Cq.wp.no (p:=((s.vars.length:Nat):Int)<(s.vars.length:Int)) (by omega) ?_
 exact Zns h
theorem Ze4(v:ByteArray):(ZdA v).Ret (nameB v):=by
 cases hb:nameB v with
 | true=>
  have hg:Good ⟨[v],[],[],1⟩:=⟨by simp,by simpa using hb,by simp,by simp,⟨by simp,by simp,by simp,by simp⟩,⟨by simp,by simp,by simp,by simp⟩,by simp⟩
  exact⟨true,Zbv hg,rfl⟩
 | false=>
  refine⟨false,?_,rfl⟩
  show (Cq.next _ _).wp _
  refine Cq.ZW ?_
  exact⟨v,⟨by omega,rfl⟩,false,hb ▸ Zgp v,rfl⟩
end Go.EL

namespace Go.EL
open Go.IntKind (i8 i16 i32 i64 u8 u16 u32 u64)
open Go Go.RowKit
def findFrom(id:Int):List Zb->Nat->Int
 | [],_=>-1
 | x::xs,k=>if x.id=id then (k:Int) else findFrom id xs (k+1)
def findI(l:List Zb)(id:Int):Int:=findFrom id l 0
theorem ZaJ{l:List Zb}(hl:l.length<=100)(id:Int):(Zch l id).Ret (findI l id):=by
 refine Cq.Zk l.length (fun k s=>s=(k:Int)/\findI l id=findFrom id (l.drop k) k) (fun k s hk hs=>?_) (fun s hs=>?_) ⟨rfl,rfl⟩
 .obtain⟨rfl,he⟩:=hs
  rw[List.drop_eq_getElem_cons hk] at he
  simp only[findFrom] at he
  rw[Cq.Zd,if_pos (by omega)]
  refine⟨l[k],idxN hk,?_⟩
  rw[Cq.Zd]
  split
  .rename_i h
   rw[if_pos h] at he
   exact he.symm
  rename_i h
  rw[if_neg h] at he
  exact⟨wrapN (by omega),he⟩
 obtain⟨rfl,he⟩:=hs
 rw[Cq.Zd,if_neg (by omega)]
 rw[List.drop_length] at he
 exact he.symm
def idxFrom(v:ByteArray):List ByteArray->Nat->Int
 | [],_=>-1
 | x::xs,k=>if x=v then (k:Int) else idxFrom v xs (k+1)
def idxI(l:List ByteArray)(v:ByteArray):Int:=idxFrom v l 0
theorem Zkc{s:Za}(hl:s.vars.length<=100)(v:ByteArray):(Ze1 s v).Ret (idxI s.vars v):=by
 refine Cq.Zk s.vars.length (fun k st=>st=(k:Int)/\idxI s.vars v=idxFrom v (s.vars.drop k) k) (fun k st hk hs=>?_) (fun st hs=>?_) ⟨rfl,rfl⟩
 .obtain⟨rfl,he⟩:=hs
  rw[List.drop_eq_getElem_cons hk] at he
  simp only[idxFrom] at he
  rw[Cq.Zd,if_pos (by omega)]
  refine⟨s.vars[k],idxN hk,?_⟩
  rw[Cq.Zd]
  split
  .rename_i h
   rw[if_pos h] at he
   exact he.symm
  rename_i h
  rw[if_neg h] at he
  exact⟨wrapN (by omega),he⟩
 obtain⟨rfl,he⟩:=hs
 rw[Cq.Zd,if_neg (by omega)]
 rw[List.drop_length] at he
 exact he.symm
theorem ZjU{l:List ByteArray}(hl:l.length<=100)(v:ByteArray):(Z8 l v).Ret (idxI l v):=by
 refine Cq.Zk l.length (fun k st=>st=(k:Int)/\idxI l v=idxFrom v (l.drop k) k) (fun k st hk hs=>?_) (fun st hs=>?_) ⟨rfl,rfl⟩
 .obtain⟨rfl,he⟩:=hs
  rw[List.drop_eq_getElem_cons hk] at he
  simp only[idxFrom] at he
  rw[Cq.Zd,if_pos (by omega)]
  refine⟨l[k],idxN hk,?_⟩
  rw[Cq.Zd]
  split
  .rename_i h
   rw[if_pos h.symm] at he
   exact he.symm
  rename_i h
  rw[if_neg (fun e=>h e.symm)] at he
  exact⟨wrapN (by omega),he⟩
 obtain⟨rfl,he⟩:=hs
 rw[Cq.Zd,if_neg (by omega)]
 rw[List.drop_length] at he
 exact he.symm
theorem ZkJ{l:List ByteArray}(hl:l.length<=100)(v:ByteArray):(Zak l v).Ret (decide (0<=idxI l v)):=⟨_,ZjU hl v,rfl⟩
def dropL(l:List Zb)(id:Int):List Zb:=l.filter fun q=>decide (¬ q.id=id)
theorem Zbm{α:Type}{l:List α}{k:Nat}(hk:k<l.length)(p:α->Bool):(l.take (k+1)).filter p=(l.take k).filter p++(if p l[k]=true then [l[k]] else []):=by
 rw[<- List.take_append_getElem hk,List.filter_append]
 congr 1
 by_cases h:p l[k]=true <;> simp[h]
theorem Zgl{l:List Zb}(hl:l.length<=100)(id:Int):(Zdi l id).Ret (dropL l id):=by
 show (Cq.next _ _).wp _
 refine Cq.Zk l.length (fun k s=>s=(dropL (l.take k) id,(k:Int))) (fun k s hk hs=>?_) (fun s hs=>?_) rfl
 .subst hs
  have e:=Zbm hk fun q=>decide (¬ q.id=id)
  have hlen:(dropL (l.take k) id).length<=k:=Nat.le_trans (List.length_filter_le _ _) (by simp; omega)
  refine Cq.wp.yes (p:=(k:Int)<(l.length:Int)) (by omega) ?_
  refine⟨l[k],idxN hk,?_⟩
  rw[Cq.Zd]
  split
  .rename_i h
   refine⟨l[k],idxN hk,by simp[small]; omega,?_⟩
   show _=_
   rw[wrapN (by omega)]
   unfold dropL at *
   rw[e,if_pos (decide_eq_true h)]
  rename_i h
  show _=_
  rw[wrapN (by omega)]
  unfold dropL at *
  rw[e,if_neg (by simpa using h),List.append_nil]
 subst hs
 show (if ((l.length:Nat):Int)<(l.length:Int) then _ else _:Cq _).wp _
 rw[Cq.Zd,if_neg (by omega),List.take_length]
 rfl
def putL(l:List Zb)(x:Zb):List Zb:=l.filter (fun q=>decide (q.id<x.id))++x::l.filter fun q=>decide (x.id<q.id)
theorem filter_all{l:List Zb}{p:Zb->Bool}(h:∀ q ∈ l,p q=true):l.filter p=l:=List.filter_eq_self.2 h
theorem filter_none{l:List Zb}{p:Zb->Bool}(h:∀ q ∈ l,p q=false):l.filter p=[]:=List.filter_eq_nil_iff.2 fun q hq=>by rw[h q hq]; decide
theorem Zej{l:List Zb}(hl:l.length<=100)(hi:l.Pairwise fun a b=>a.id<b.id)(x:Zb):(Zcs l x).Ret (putL l x):=by
 show (Cq.next _ _).wp _
 refine Cq.Zk l.length (fun k s=>(s=(l.take k,false,(k:Int))/\∀ q ∈ l.take k,q.id<x.id)\/(s=(putL (l.take k) x,true,(k:Int))/\∃ q ∈ l.take k,x.id<=q.id)) (fun k s hk hs=>?_) (fun s hs=>?_) (.inl ⟨rfl,by simp⟩)
 .have elt:=Zbm hk fun q=>decide (q.id<x.id)
  have egt:=Zbm hk fun q=>decide (x.id<q.id)
  have hlen:(putL (l.take k) x).length<=2*k+1:=by
   unfold putL
   have h1:=List.length_filter_le (fun q:Zb=>decide (q.id<x.id)) (l.take k)
   have h2:=List.length_filter_le (fun q:Zb=>decide (x.id<q.id)) (l.take k)
   simp only[List.length_append,List.length_cons,List.length_take] at *
   omega
  have hmem:l[k] ∈ l.take (k+1):=by rw[<- List.take_append_getElem hk]; exact List.mem_append_right _ (List.mem_singleton.2 rfl)
  rcases hs with ⟨rfl,hs⟩|⟨rfl,q,hq,hqx⟩
  .rw[Cq.Zd,if_pos (by omega),Cq.Zd,if_neg (by decide)]
   refine⟨l[k],idxN hk,?_⟩
   have e1:(l.take k).filter (fun q=>decide (q.id<x.id))=l.take k:=filter_all fun q hq=>decide_eq_true (hs q hq)
   have e2:(l.take k).filter (fun q=>decide (x.id<q.id))=[]:=filter_none fun q hq=>decide_eq_false (by have:=hs q hq; omega)
   rw[Cq.Zd]
   split
   .rename_i hx
    refine⟨by simp[small]; omega,l[k],idxN hk,?_⟩
    rw[Cq.Zd]
    split
    .rename_i hne
     refine⟨l[k],idxN hk,by simp[small]; omega,.inr ⟨?_,l[k],hmem,hx⟩⟩
     rw[wrapN (by omega)]
     unfold putL
     rw[elt,egt,e1,e2,if_neg (by simp; omega),if_pos (by simp; omega)]
     simp
    rename_i hne
    refine .inr ⟨?_,l[k],hmem,hx⟩
    rw[wrapN (by omega)]
    unfold putL
    rw[elt,egt,e1,e2,if_neg (by simp; omega),if_neg (by simp; omega)]
    simp
   rename_i hx
   refine⟨l[k],idxN hk,?_⟩
   rw[Cq.Zd,if_pos (by omega)]
   refine⟨l[k],idxN hk,by simp[small]; omega,.inl ⟨by rw[wrapN (by omega),List.take_append_getElem hk],fun q hq=>?_⟩⟩
   rw[<- List.take_append_getElem hk] at hq
   rcases List.mem_append.1 hq with hq|hq
   .exact hs q hq
   rw[List.mem_singleton] at hq; subst hq; omega
  have hgt:x.id<l[k].id:=by
   obtain⟨i,hi',rfl⟩:=List.mem_iff_getElem.1 hq
   simp only[List.length_take] at hi'
   rw[List.getElem_take] at hqx
   have:=List.pairwise_iff_getElem.1 hi i k (by omega) hk (by omega)
   omega
  rw[Cq.Zd,if_pos (by omega),Cq.Zd,if_pos rfl]
  refine⟨l[k],idxN hk,?_⟩
  rw[Cq.Zd,if_pos (by omega)]
  refine⟨l[k],idxN hk,by simp[small]; omega,.inr ⟨?_,l[k],hmem,by omega⟩⟩
  rw[wrapN (by omega)]
  unfold putL
  rw[elt,egt,if_neg (by simp; omega),if_pos (by simp; omega)]
  simp
 rcases hs with ⟨rfl,hs⟩|⟨rfl,q,hq,hqx⟩
 .rw[Cq.Zd,if_neg (by omega)]
  rw[List.take_length] at hs ⊢
  refine⟨by simp[small]; omega,?_⟩
  show _=putL l x
  unfold putL
  rw[filter_all fun q hq=>decide_eq_true (hs q hq),filter_none fun q hq=>decide_eq_false (by have:=hs q hq; omega)]
 rw[Cq.Zd,if_neg (by omega),List.take_length]
 rfl
def movedL(π:M)(l:List Zb):List Zb:=l.map fun q=>⟨q.id,permP π q.p⟩
theorem ZcA{π:M}(h:IsPerm π){l:List Zb}(hl:l.length<=100)(hp:∀ q ∈ l,PolOk q.p):(Zbg l π).Ret (movedL π l):=by
 show (Cq.next _ _).wp _
 refine Cq.Zk l.length (fun k s=>s=(movedL π (l.take k),(k:Int))) (fun k s hk hs=>?_) (fun s hs=>?_) rfl
 .subst hs
  refine Cq.wp.yes (p:=(k:Int)<(l.length:Int)) (by omega) ?_
  refine⟨l[k],idxN hk,_,ZiZ h (hp _ (List.getElem_mem hk)),l[k],idxN hk,by simp[movedL,small]; omega,?_⟩
  show _=_
  rw[wrapN (by omega)]
  unfold movedL
  rw[<- List.take_append_getElem hk,List.map_append]
  rfl
 subst hs
 show (if ((l.length:Nat):Int)<(l.length:Int) then _ else _:Cq _).wp _
 rw[Cq.Zd,if_neg (by omega),List.take_length]
 rfl
end Go.EL

namespace Go.EL
open Go.IntKind (i8 i16 i32 i64 u8 u16 u32 u64)
open Go Go.RowKit
def idM:M:=fun i=>(i.val:Int)
def rotF(a b:Nat):M:=fun i=>if i.val=a then (b:Int) else if a<i.val/\i.val<=b then (i.val:Int)-1 else if i.val<a/\b<=i.val then (i.val:Int)+1 else (i.val:Int)
def swapF(a b:Nat):M:=setF (setF idM a (b:Int)) b (a:Int)
theorem Zl7:(between 0 4 fun a=>between 0 4 fun b=>runs 30 (ZaA a b) (rotF a.toNat b.toNat))=true:=by decide +kernel
theorem ZfI{a b:Nat}(ha:a<=4)(hb:b<=4):(ZaA (a:Int) (b:Int)).Ret (rotF a b):=by
 have:=Z4 (Z4 Zl7 (x:=(a:Int)) (by omega) (by omega)) (x:=(b:Int)) (by omega) (by omega)
 exact Za5 (by simpa using this)
theorem ZeD:Zbx.Ret idM:=Cq.Ret.Zm3 20 (by decide +kernel)
theorem Zlq:∀ a b:Fin 5,(∀ i:Fin 8,0<=rotF a.val b.val i/\rotF a.val b.val i<8)/\∀ i j:Fin 8,rotF a.val b.val i=rotF a.val b.val j->i=j:=by decide +kernel
theorem Za4{a b:Nat}(ha:a<=4)(hb:b<=4):IsPerm (rotF a b):=by
 obtain⟨h1,h2⟩:=Zlq ⟨a,by omega⟩ ⟨b,by omega⟩
 exact⟨h1,h2⟩
theorem ZkG:∀ a b:Fin 5,(∀ i:Fin 8,0<=swapF a.val b.val i/\swapF a.val b.val i<8)/\∀ i j:Fin 8,swapF a.val b.val i=swapF a.val b.val j->i=j:=by decide +kernel
theorem swap_perm{a b:Nat}(ha:a<=4)(hb:b<=4):IsPerm (swapF a b):=by
 obtain⟨h1,h2⟩:=ZkG ⟨a,by omega⟩ ⟨b,by omega⟩
 exact⟨h1,h2⟩
theorem ZoO:rotF 0 0=idM:=by decide +kernel
theorem ZM{f:Unit->Cq Bool}{b:Bool}(h:(f ()).Ret b)(e:Int):(Zo f e).Ret (if b=true then 0 else e):=by
 refine⟨b,h,?_⟩
 rw[Cq.Zd]
 split <;> rfl
theorem Zcx{l:List (Unit->Cq Int)}(hl:l.length<=100){k:Nat}(hk:k<l.length){e:Int}(h0:∀ j (hj:j<l.length),j<k->(l[j] ()).Ret 0)(h:(l[k] ()).Ret e)(he:e≠0):(ZA l).Ret e:=by
 show (Cq.next _ _).wp _
 refine Cq.ZeJ (fun s=>∃ j:Nat,s=(j:Int)/\j<=k) (fun s=>k-s.toNat) (fun s hs=>?_) _ ⟨0,rfl,by omega⟩
 obtain⟨j,rfl,hj⟩:=hs
 refine Cq.wp.yes (p:=(j:Int)<(l.length:Int)) (by omega) ?_
 by_cases hjk:j=k
 .subst hjk
  refine⟨l[j],idxN hk,e,h,?_⟩
  rw[Cq.Zd,if_pos he]
  rfl
 refine⟨l[j],idxN (by omega),0,h0 j (by omega) (by omega),?_⟩
 rw[Cq.Zd,if_neg (by decide)]
 exact⟨⟨j+1,wrapN (by omega),by omega⟩,by rw[wrapN (by omega)]; simp; omega⟩
theorem ZiC{l:List (Unit->Cq Int)}(hl:l.length<=100)(h0:∀ j (hj:j<l.length),(l[j] ()).Ret 0):(ZA l).Ret 0:=by
 show (Cq.next _ _).wp _
 refine Cq.Zk l.length (fun k s=>s=(k:Int)) (fun k s hk hs=>?_) (fun s hs=>?_) rfl
 .subst hs
  refine Cq.wp.yes (p:=(k:Int)<(l.length:Int)) (by omega) ?_
  refine⟨l[k],idxN hk,0,h0 k hk,?_⟩
  rw[Cq.Zd,if_neg (by decide)]
  exact wrapN (by omega)
 subst hs
 refine Cq.wp.no (p:=((l.length:Nat):Int)<(l.length:Int)) (by omega) ?_
 rfl
theorem ZeW{l:List ByteArray}(hl:l.length<=100):(ZK l).Ret l:=by
 refine⟨fun e=>by subst e; rfl,by simp[small]; omega,rfl⟩
theorem Zd4{l:List Zb}(hl:l.length<=100):(ZB l).Ret l:=by
 refine⟨fun e=>by subst e; rfl,by simp[small]; omega,rfl⟩
theorem Zi2{π:M}(h:IsPerm π){l:List Zb}(hl:l.length<=100)(hp:∀ q ∈ l,PolOk q.p):(ZH l π).Ret (movedL π l):=by
 refine⟨⟨by omega,by omega⟩,?_⟩
 show (Cq.next _ _).wp _
 refine Cq.Zk l.length (fun k s=>s=(movedL π (l.take k)++List.replicate (l.length-k) (Zb.mk 0 []),(k:Int))) (fun k s hk hs=>?_) (fun s hs=>?_) (by simp[movedL])
 .subst hs
  have hlen:(movedL π (l.take k)).length=k:=by simp[movedL]; omega
  have hrep:List.replicate (l.length-k) (Zb.mk 0 [])=Zb.mk 0 []::List.replicate (l.length-(k+1)) (Zb.mk 0 []):=by
   rw[show l.length-k=(l.length-(k+1))+1 by omega,List.replicate_succ]
  refine Cq.wp.yes (p:=(k:Int)<(l.length:Int)) (by omega) ?_
  refine⟨l[k],idxN hk,⟨l[k].id,permP π l[k].p⟩,⟨_,ZlJ h (hp _ (List.getElem_mem hk)),rfl⟩,Zb.mk 0 [],⟨by omega,?_⟩,?_⟩
  .rw[Int.toNat_natCast,List.getElem?_append_right (by omega),hlen,Nat.sub_self,hrep]; rfl
  show _=_
  rw[wrapN (by omega),Int.toNat_natCast,List.set_append_right _ _ (by omega),hlen,Nat.sub_self,hrep,List.set_cons_zero]
  have e:movedL π (l.take (k+1))=movedL π (l.take k)++[⟨l[k].id,permP π l[k].p⟩]:=by
   unfold movedL
   rw[<- List.take_append_getElem hk,List.map_append]; rfl
  rw[e,List.append_assoc]; rfl
 subst hs
 show (if ((l.length:Nat):Int)<(l.length:Int) then _ else _:Cq _).wp _
 rw[Cq.Zd,if_neg (by omega),List.take_length,Nat.sub_self]
 show _=_
 simp
def permS(π:M)(s:Za):Za:=⟨s.vars,movedL π s.eqs,movedL π s.neqs,s.next⟩
theorem ZfH{π:M}(h:IsPerm π){s:Za}(hg:Good s):(ZbJ s π).Ret (permS π s):=
 ⟨_,Zi2 h (by have:=hg.eqs.len; omega) (fun q hq=>(hg.eqs.pol q hq).1),_,Zi2 h (by have:=hg.neqs.len; omega) (fun q hq=>(hg.neqs.pol q hq).1),rfl⟩
end Go.EL

namespace Go.EL
open Go.IntKind (i8 i16 i32 i64 u8 u16 u32 u64)
open Go Go.RowKit
def usedL(i:Fin 8)(l:List Zb):Bool:=l.any fun q=>Occurs i q.p
def usedS(i:Fin 8)(s:Za):Bool:=usedL i s.eqs || usedL i s.neqs
theorem ZiR{i:Fin 8}{l:List Zb}(h:∀ k (hk:k<l.length),Occurs i l[k].p=false):usedL i l=false:=by
 unfold usedL
 rw[List.any_eq_false]
 intro q hq
 obtain⟨k,hk,rfl⟩:=List.mem_iff_getElem.1 hq
 rw[h k hk]; decide
theorem ZhE{i:Fin 8}{l:List Zb}{k:Nat}(hk:k<l.length)(h:Occurs i l[k].p=true):usedL i l=true:=by
 unfold usedL
 rw[List.any_eq_true]
 exact⟨_,List.getElem_mem hk,h⟩
theorem ZoW{s:Za}(h:Good s)(i:Fin 8):(Zir s (i.val:Int)).Ret (usedS i s):=by
 have he:=h.eqs.len
 have hn:=h.neqs.len
 show (Cq.next _ _).wp _
 refine Cq.Zk s.eqs.length (fun k st=>st=(k:Int)/\∀ j (hj:j<s.eqs.length),j<k->Occurs i s.eqs[j].p=false) (fun k st hk hs=>?_) (fun st hs=>?_) ⟨rfl,fun j _ hj=>by omega⟩
 .obtain⟨rfl,hi⟩:=hs
  have hp:=(h.eqs.pol _ (List.getElem_mem hk)).1
  rw[Cq.Zd,if_pos (by omega)]
  refine⟨s.eqs[k],idxN hk,_,ZcG hp.len,by omega,?_⟩
  rw[Cq.Zd]
  split
  .rename_i hu
   show true=usedS i s
   unfold usedS
   rw[ZhE hk ((Zgx _ i).1 hu)]; rfl
  rename_i hu
  refine⟨wrapN (by omega),fun j hj hjk=>?_⟩
  by_cases e:j=k
  .subst e
   exact Bool.eq_false_iff.2 fun ho=>hu ((Zgx _ i).2 ho)
  exact hi j hj (by omega)
 obtain⟨rfl,hi⟩:=hs
 have e1:=ZiR (i:=i) fun j hj=>hi j hj hj
 rw[Cq.Zd,if_neg (by omega)]
 show (Zdx s (i.val:Int)).wp _
 show (Cq.next _ _).wp _
 refine Cq.Zk s.neqs.length (fun k st=>st=(k:Int)/\∀ j (hj:j<s.neqs.length),j<k->Occurs i s.neqs[j].p=false) (fun k st hk hs=>?_) (fun st hs=>?_) ⟨rfl,fun j _ hj=>by omega⟩
 .obtain⟨rfl,hi⟩:=hs
  have hp:=(h.neqs.pol _ (List.getElem_mem hk)).1
  rw[Cq.Zd,if_pos (by omega)]
  refine⟨s.neqs[k],idxN hk,_,ZcG hp.len,by omega,?_⟩
  rw[Cq.Zd]
  split
  .rename_i hu
   show true=usedS i s
   unfold usedS
   rw[ZhE hk ((Zgx _ i).1 hu),Bool.or_true]
  rename_i hu
  refine⟨wrapN (by omega),fun j hj hjk=>?_⟩
  by_cases e:j=k
  .subst e
   exact Bool.eq_false_iff.2 fun ho=>hu ((Zgx _ i).2 ho)
  exact hi j hj (by omega)
 obtain⟨rfl,hi⟩:=hs
 rw[Cq.Zd,if_neg (by omega)]
 show false=usedS i s
 unfold usedS
 rw[e1,ZiR fun j hj=>hi j hj hj]; rfl
theorem ZmI{a b:List Zb}(ha:a.length<=100)(hb:b.length<=100):(ZT [a,b]).Ret (a++b):=by
 show (Cq.next _ _).wp _
 refine Cq.Zk 2 (fun k st=>st=((if k=0 then 0 else if k=1 then (a.length:Int) else (a.length:Int)+(b.length:Int)),(k:Int))) (fun k st hk hs=>?_) (fun st hs=>?_) rfl
 .subst hs
  rcases (show k=0\/k=1 by omega) with rfl|rfl
  .refine⟨a,⟨by omega,rfl⟩,?_⟩
   have hw:i64.wrap (0+(a.length:Int))=(a.length:Int):=by rw[wrap64 (by omega)]; omega
   simp only[if_pos]
   rw[hw,Cq.Zd,if_neg (by omega)]
   rfl
  refine⟨b,⟨by omega,rfl⟩,?_⟩
  have hw:i64.wrap ((a.length:Int)+(b.length:Int))=(a.length:Int)+(b.length:Int):=by rw[wrap64 (by omega)]
  simp only[show ¬ (1=0) by decide,if_false,if_true]
  rw[hw,Cq.Zd,if_neg (by omega)]
  rfl
 subst hs
 show (ZD [a,b] ((a.length:Int)+(b.length:Int))).wp _
 refine⟨[],⟨⟨by omega,by omega⟩,rfl⟩,?_⟩
 show (Cq.next _ _).wp _
 refine Cq.Zk 2 (fun k st=>st=((if k=0 then [] else if k=1 then a else a++b),(k:Int))) (fun k st hk hs=>?_) (fun st hs=>?_) rfl
 .subst hs
  rcases (show k=0\/k=1 by omega) with rfl|rfl
  .exact⟨a,⟨by omega,rfl⟩,by simp[small]; omega,by simp; rfl⟩
  exact⟨b,⟨by omega,rfl⟩,by simp[small]; omega,rfl⟩
 subst hs
 rfl
theorem Zni{s:Za}(h:Good s){e:Zc}(i:Fin 8)(hi:e.at'=(i.val:Int)):(Zay s e).Ret (!usedS i s):=by
 have he:=h.eqs.len
 have hn:=h.neqs.len
 have hu:usedS i s=usedL i (s.eqs++s.neqs):=by unfold usedS usedL; rw[List.any_append]
 have hlen:(s.eqs++s.neqs).length<=24:=by rw[List.length_append]; omega
 refine⟨_,ZmI (by omega) (by omega),?_⟩
 rw[hu]
 have hp:∀ q ∈ s.eqs++s.neqs,PolOk q.p:=fun q hq=>by
  rcases List.mem_append.1 hq with hq|hq
  .exact (h.eqs.pol q hq).1
  exact (h.neqs.pol q hq).1
 generalize s.eqs++s.neqs=l at *
 show (Cq.next _ _).wp _
 refine Cq.Zk l.length (fun k st=>st=(k:Int)/\∀ j (hj:j<l.length),j<k->Occurs i l[j].p=false) (fun k st hk hs=>?_) (fun st hs=>?_) ⟨rfl,fun j _ hj=>by omega⟩
 .obtain⟨rfl,hi'⟩:=hs
  refine Cq.wp.yes (p:=(k:Int)<(l.length:Int)) (by omega) ?_
  refine⟨l[k],idxN hk,_,Zit (hp _ (List.getElem_mem hk)).len,by omega,?_⟩
  rw[hi,Cq.Zd]
  split
  .rename_i hu'
   show false = !usedL i l
   rw[ZhE hk ((Zkq _ i).1 hu')]; rfl
  rename_i hu'
  refine⟨wrapN (by omega),fun j hj hjk=>?_⟩
  by_cases ej:j=k
  .subst ej
   exact Bool.eq_false_iff.2 fun ho=>hu' ((Zkq _ i).2 ho)
  exact hi' j hj (by omega)
 obtain⟨rfl,hi'⟩:=hs
 refine Cq.wp.no (p:=((l.length:Nat):Int)<(l.length:Int)) (by omega) ?_
 show true = !usedL i l
 rw[ZiR fun j hj=>hi' j hj hj]; rfl
end Go.EL

namespace Go.EL
open Go.IntKind (i8 i16 i32 i64 u8 u16 u32 u64)
open Go Go.RowKit
def isV(s:Za)(i:Int):Bool:=decide (0<=i/\i<(s.vars.length:Int))
def usedAt(s:Za)(i:Int):Bool:=usedS ⟨i.toNat % 8,Nat.mod_lt _ (by decide)⟩ s
def hasB(s:Za)(id:Int):Bool:=decide (0<=findI s.eqs id) || decide (0<=findI s.neqs id)
def addC(s:Za)(e:Zc):Int:=
 if e.id<0\/999999<e.id\/(0<e.id/\hasB s e.id=true) then 332
 else if (e.neq=false/\12<=s.eqs.length)\/(e.neq=true/\12<=s.neqs.length)\/(e.id=0/\1000000<=s.next) then 2
 else if fitB e.p (s.vars.length:Int)=true then 0 else 320
def idC(s:Za)(e:Zc):Int:=
 if hasB s e.id=false then 332
 else if e.kind=7/\fitB e.p (s.vars.length:Int)=false then 320
 else if e.kind=8/\((0<=findI s.eqs e.id/\12<=s.neqs.length)\/(¬ 0<=findI s.eqs e.id/\12<=s.eqs.length)) then 2 else 0
def checkF(s:Za)(e:Zc):Int:=
 if e.kind=1 then (if 4<=s.vars.length then 2 else if ¬ (0<=e.at'/\e.at'<=(s.vars.length:Int)) then 330 else if nameB e.name=true/\idxI s.vars e.name<0 then 0 else 331)
 else if e.kind=2 then (if isV s e.at'=true then (if usedAt s e.at'=true then 333 else 0) else 330)
 else if e.kind=3 then (if isV s e.at'=true then (if nameB e.name=true/\(idxI s.vars e.name<0\/idxI s.vars e.name=e.at') then 0 else 331) else 330)
 else if e.kind=4 then (if isV s e.at'=true/\isV s e.to'=true then 0 else 330)
 else if e.kind=5 then addC s e
 else if e.kind=6\/e.kind=7\/e.kind=8 then idC s e else 1
theorem Zi9(s:Za)(i:Int):(Zew s i).Ret (isV s i):=by
 unfold Zew isV
 by_cases h:0<=i
 .rw[if_pos h]
  exact decide_eq_decide.2 ⟨fun k=>⟨h,k⟩,fun k=>k.2⟩
 rw[if_neg h]
 exact (decide_eq_false fun k=>h k.1).symm
theorem Zi7(s:Za)(i:Int):(ZY i s).Ret (isV s i):=by
 unfold ZY isV
 by_cases h:0<=i
 .rw[if_pos h]
  exact decide_eq_decide.2 ⟨fun k=>⟨h,k⟩,fun k=>k.2⟩
 rw[if_neg h]
 exact (decide_eq_false fun k=>h k.1).symm
theorem Zfg{s:Za}{i:Int}(hv:s.vars.length<=4)(h:isV s i=true):∃ j:Fin 8,i=(j.val:Int)/\usedAt s i=usedS j s:=by
 have:=of_decide_eq_true h
 refine⟨⟨i.toNat,by omega⟩,by simp; omega,?_⟩
 unfold usedAt
 congr 1
 exact Fin.ext (Nat.mod_eq_of_lt (by omega))
theorem Zmo{s:Za}(h:Good s)(id:Int):(ZhK s id).Ret (hasB s id):=by
 have he:=h.eqs.len
 have hn:=h.neqs.len
 refine⟨_,ZaJ (by omega) id,?_⟩
 rw[Cq.Zd]
 unfold hasB
 split
 .rename_i h1
  show true=_
  rw[decide_eq_true h1]; rfl
 rename_i h1
 refine⟨_,ZaJ (by omega) id,?_⟩
 show _=_
 rw[decide_eq_false h1]; rfl
theorem Zk3{s:Za}(h:Good s){e:Zc}(hp:PolOk e.p):(ZcL s e).Ret (addC s e):=by
 have hk1:∀ {r:Int},r=(if fitB e.p (s.vars.length:Int)=true then 0 else 320)->(ZI s e).Ret r:=by
  intro r hr
  subst hr
  refine⟨_,Zg1 hp (by omega),?_⟩
  rw[Cq.Zd]
  cases fitB e.p (s.vars.length:Int) <;> rfl
 have hk2:∀ {r:Int},r=(if (e.neq=false/\12<=s.eqs.length)\/(e.neq=true/\12<=s.neqs.length)\/(e.id=0/\1000000<=s.next) then 2 else if fitB e.p (s.vars.length:Int)=true then 0 else 320)->(ZaT s e).Ret r:=by
  intro r hr
  have hnext:¬ ((e.neq=false/\12<=s.eqs.length)\/(e.neq=true/\12<=s.neqs.length))->(if e.id=0 then (if 1000000<=s.next then (Cq.ret 2) else (ZI s e)) else (ZI s e):Cq Int).wp (fun a=>a=r):=by
   intro hno
   rw[Cq.Zd]
   split
   .rename_i h0
    rw[Cq.Zd]
    split
    .rename_i h1
     rw[if_pos (.inr (.inr ⟨h0,h1⟩))] at hr
     exact hr.symm
    rename_i h1
    exact hk1 (by rw[hr,if_neg (fun hh=>by rcases hh with hh|hh|hh; exact hno (.inl hh); exact hno (.inr hh); exact h1 hh.2)])
   rename_i h0
   exact hk1 (by rw[hr,if_neg (fun hh=>by rcases hh with hh|hh|hh; exact hno (.inl hh); exact hno (.inr hh); exact h0 hh.1)])
  unfold ZaT
  cases hn:e.neq with
  | true=>
   show (if true=true then _ else _:Cq Int).wp _
   rw[Cq.Zd,if_pos rfl,Cq.Zd,if_pos rfl,Cq.Zd]
   split
   .rename_i h1
    rw[if_pos (.inr (.inl ⟨hn,by omega⟩))] at hr
    exact hr.symm
   rename_i h1
   exact hnext (fun hh=>by rcases hh with hh|hh; rw[hn] at hh; exact absurd hh.1 (by decide); omega)
  | false=>
   show (if false=true then _ else _:Cq Int).wp _
   rw[Cq.Zd,if_neg (by decide),Cq.Zd]
   split
   .rename_i h1
    rw[if_pos (.inl ⟨hn,by omega⟩)] at hr
    exact hr.symm
   rename_i h1
   rw[Cq.Zd,if_neg (by decide)]
   exact hnext (fun hh=>by rcases hh with hh|hh; omega; rw[hn] at hh; exact absurd hh.1 (by decide))
 unfold ZcL addC
 show (if e.id<0 then _ else _:Cq Int).wp _
 rw[Cq.Zd]
 split
 .rename_i h1
  rw[if_pos (.inl h1)]; rfl
 rename_i h1
 rw[Cq.Zd]
 split
 .rename_i h2
  rw[if_pos (.inr (.inl h2))]; rfl
 rename_i h2
 rw[Cq.Zd]
 split
 .rename_i h3
  refine⟨_,Zmo h e.id,?_⟩
  rw[Cq.Zd]
  split
  .rename_i h4
   rw[if_pos (.inr (.inr ⟨h3,h4⟩))]; rfl
  rename_i h4
  rw[if_neg (fun hh=>by rcases hh with hh|hh|hh; exact h1 hh; exact h2 hh; exact h4 hh.2)]
  exact hk2 rfl
 rename_i h3
 rw[if_neg (fun hh=>by rcases hh with hh|hh|hh; exact h1 hh; exact h2 hh; exact h3 hh.1)]
 exact hk2 rfl
theorem Zfy{s:Za}(h:Good s){e:Zc}(hp:PolOk e.p):(ZbA s e).Ret (idC s e):=by
 have he:=h.eqs.len
 have hn:=h.neqs.len
 have hk1:∀ {r:Int},r=(if e.kind=8/\((0<=findI s.eqs e.id/\12<=s.neqs.length)\/(¬ 0<=findI s.eqs e.id/\12<=s.eqs.length)) then 2 else 0)->(ZbR s e).Ret r:=by
  intro r hr
  refine⟨_,ZaJ (by omega) e.id,?_⟩
  rw[Cq.Zd]
  split
  .rename_i h8
   rw[Cq.Zd]
   split
   .rename_i hf
    rw[Cq.Zd]
    split
    .rename_i hb
     rw[if_pos ⟨h8,.inl ⟨hf,by omega⟩⟩] at hr
     exact hr.symm
    rename_i hb
    rw[if_neg (fun hh=>by rcases hh.2 with hh|hh; omega; exact hh.1 hf)] at hr
    exact hr.symm
   rename_i hf
   split
   .rename_i hb
    rw[if_pos ⟨h8,.inr ⟨hf,by omega⟩⟩] at hr
    exact hr.symm
   rename_i hb
   rw[if_neg (fun hh=>by rcases hh.2 with hh|hh; exact hf hh.1; omega)] at hr
   exact hr.symm
  rename_i h8
  rw[if_neg (fun hh=>h8 hh.1)] at hr
  exact hr.symm
 unfold ZbA idC
 refine⟨_,Zmo h e.id,?_⟩
 cases hb:hasB s e.id with
 | false=>
  rw[Cq.Zd,if_pos (by decide),if_pos rfl]
  rfl
 | true=>
  rw[Cq.Zd,if_neg (by decide),if_neg (show ¬ (true=false) by decide),Cq.Zd]
  split
  .rename_i h7
   refine⟨_,Zg1 hp (by omega),?_⟩
   cases hf:fitB e.p (s.vars.length:Int) with
   | false=>
    rw[Cq.Zd,if_pos (by decide),if_pos ⟨h7,rfl⟩]
    rfl
   | true=>
    rw[Cq.Zd,if_neg (by decide),if_neg (fun hh=>absurd hh.2 (by decide))]
    exact hk1 rfl
  rename_i h7
  rw[if_neg (fun hh=>h7 hh.1)]
  exact hk1 rfl
theorem ZaQ{s:Za}(h:Good s){e:Zc}(hp:PolOk e.p):(Ze0 s e).Ret (checkF s e):=by
 have hv:=h.vars
 unfold Ze0 checkF
 show (if e.kind=1 then _ else _:Cq Int).wp _
 by_cases hk1:e.kind=1
 .rw[Cq.Zd,if_pos hk1,if_pos hk1,Cq.Zd]
  split
  .rename_i h1
   rw[if_pos (show 4<=s.vars.length by omega)]; rfl
  rename_i h1
  rw[if_neg (show ¬ 4<=s.vars.length by omega),Cq.Zd]
  split
  .rename_i h2
   rw[if_pos (show ¬ (0<=e.at'/\e.at'<=(s.vars.length:Int)) by omega)]; rfl
  rename_i h2
  rw[Cq.Zd]
  split
  .rename_i h3
   rw[if_pos (show ¬ (0<=e.at'/\e.at'<=(s.vars.length:Int)) by omega)]; rfl
  rename_i h3
  rw[if_neg (show ¬ ¬ (0<=e.at'/\e.at'<=(s.vars.length:Int)) by omega)]
  refine⟨_,Zim _,?_⟩
  cases hb:nameB e.name with
  | false=>rw[if_neg (fun hh=>absurd hh.1 (by decide))]; rfl
  | true=>
   refine⟨_,Zkc (by omega) _,?_⟩
   rw[Cq.Zd]
   split
   .rename_i h4
    rw[if_neg (fun hh=>by omega)]; rfl
   rename_i h4
   rw[if_pos ⟨rfl,by omega⟩]; rfl
 rw[Cq.Zd,if_neg hk1,if_neg hk1]
 by_cases hk2:e.kind=2
 .rw[Cq.Zd,if_pos hk2,if_pos hk2]
  refine⟨_,Zi9 s e.at',?_⟩
  cases hb:isV s e.at' with
  | false=>rw[Cq.Zd,if_pos (by decide),if_neg (by decide)]; rfl
  | true=>
   obtain⟨j,hj,hu⟩:=Zfg hv hb
   rw[Cq.Zd,if_neg (by decide),if_pos rfl,hu]
   refine⟨usedS j s,hj ▸ ZoW h j,?_⟩
   rw[Cq.Zd]
   split <;> rfl
 rw[Cq.Zd,if_neg hk2,if_neg hk2]
 by_cases hk3:e.kind=3
 .rw[Cq.Zd,if_pos hk3,if_pos hk3]
  refine⟨_,Zi9 s e.at',?_⟩
  cases hb:isV s e.at' with
  | false=>rw[Cq.Zd,if_pos (by decide),if_neg (by decide)]; rfl
  | true=>
   rw[Cq.Zd,if_neg (by decide),if_pos rfl]
   refine⟨_,Zkc (by omega) _,_,Zim _,?_⟩
   cases hb2:nameB e.name with
   | false=>rw[if_neg (show ¬ (false=true/\(idxI s.vars e.name<0\/idxI s.vars e.name=e.at')) from fun hh=>absurd hh.1 (by decide))]; rfl
   | true=>
    show (if 0<=idxI s.vars e.name then _ else _:Cq Int).wp _
    rw[Cq.Zd]
    split
    .rename_i h4
     rw[Cq.Zd]
     split <;> rename_i h5
     .rw[if_neg (fun hh=>by rcases hh.2 with hh|hh; omega; exact h5 hh)]; rfl
     rw[if_pos ⟨rfl,.inr (Classical.not_not.1 h5)⟩]; rfl
    rename_i h4
    rw[if_pos ⟨rfl,.inl (by omega)⟩]; rfl
 rw[Cq.Zd,if_neg hk3,if_neg hk3]
 by_cases hk4:e.kind=4
 .rw[Cq.Zd,if_pos hk4,if_pos hk4]
  refine⟨_,Zi9 s e.at',?_⟩
  cases hb:isV s e.at' with
  | false=>rw[if_neg (fun hh=>absurd hh.1 (by decide))]; rfl
  | true=>
   refine⟨_,Zi9 s e.to',?_⟩
   cases hb2:isV s e.to' with
   | false=>rw[Cq.Zd,if_pos (by decide),if_neg (fun hh=>absurd hh.2 (by decide))]; rfl
   | true=>rw[Cq.Zd,if_neg (by decide),if_pos ⟨rfl,rfl⟩]; rfl
 rw[Cq.Zd,if_neg hk4,if_neg hk4]
 by_cases hk5:e.kind=5
 .rw[Cq.Zd,if_pos hk5,if_pos hk5]
  exact⟨_,Zk3 h hp,rfl⟩
 rw[Cq.Zd,if_neg hk5,if_neg hk5]
 by_cases hk6:e.kind=6
 .rw[Cq.Zd,if_pos hk6,Cq.Zd,if_pos hk6,if_pos (.inl hk6)]
  exact⟨_,Zfy h hp,rfl⟩
 rw[Cq.Zd,if_neg hk6]
 by_cases hk7:e.kind=7
 .rw[Cq.Zd,if_pos hk7,Cq.Zd,if_pos hk7,if_pos (.inr (.inl hk7))]
  exact⟨_,Zfy h hp,rfl⟩
 rw[Cq.Zd,if_neg hk7]
 by_cases hk8:e.kind=8
 .rw[Cq.Zd,if_pos hk8,if_pos (.inr (.inr hk8))]
  exact⟨_,Zfy h hp,rfl⟩
 rw[Cq.Zd,if_neg hk8,if_neg (fun hh=>by rcases hh with hh|hh|hh; exact hk6 hh; exact hk7 hh; exact hk8 hh)]
 rfl
end Go.EL

namespace Go.EL
open Go.IntKind (i8 i16 i32 i64 u8 u16 u32 u64)
open Go Go.RowKit
def zeroS:Za:=⟨[],[],[],0⟩
def addV(s:Za)(e:Zc):Za:=
 ⟨s.vars.take e.at'.toNat++[e.name]++s.vars.drop e.at'.toNat,movedL (rotF s.vars.length e.at'.toNat) s.eqs,movedL (rotF s.vars.length e.at'.toNat) s.neqs,s.next⟩
theorem first3{a b c:Unit->Cq Int}{x y z:Int}(ha:(a ()).Ret x)(hb:x=0->(b ()).Ret y)(hc:x=0->y=0->(c ()).Ret z):(ZA [a,b,c]).Ret (if x=0 then (if y=0 then z else y) else x):=by
 by_cases hx:x=0
 .by_cases hy:y=0
  .rw[if_pos hx,if_pos hy]
   by_cases hz:z=0
   .subst hx hy hz
    refine ZiC (by simp) fun j hj=>?_
    match j,hj with
    | 0,_=>exact ha
    | 1,_=>exact hb rfl
    | 2,_=>exact hc rfl rfl
   subst hx hy
   refine Zcx (k:=2) (by simp) (by simp) (fun j hj hj2=>?_) (hc rfl rfl) hz
   match j,hj2 with
   | 0,_=>exact ha
   | 1,_=>exact hb rfl
  rw[if_pos hx,if_neg hy]
  subst hx
  refine Zcx (k:=1) (by simp) (by simp) (fun j hj hj2=>?_) (hb rfl) hy
  match j,hj2 with
  | 0,_=>exact ha
 rw[if_neg hx]
 exact Zcx (k:=0) (by simp) (by simp) (fun j hj hj2=>by omega) ha hx
theorem first2{a b:Unit->Cq Int}{x y:Int}(ha:(a ()).Ret x)(hb:x=0->(b ()).Ret y):(ZA [a,b]).Ret (if x=0 then y else x):=by
 by_cases hx:x=0
 .rw[if_pos hx]
  subst hx
  by_cases hy:y=0
  .subst hy
   refine ZiC (by simp) fun j hj=>?_
   match j,hj with
   | 0,_=>exact ha
   | 1,_=>exact hb rfl
  refine Zcx (k:=1) (by simp) (by simp) (fun j hj hj2=>?_) (hb rfl) hy
  match j,hj2 with
  | 0,_=>exact ha
 rw[if_neg hx]
 exact Zcx (k:=0) (by simp) (by simp) (fun j hj hj2=>by omega) ha hx
theorem Zk1{s:Za}(h:Good s){e:Zc}(hk:e.kind=1):(ZA [fun _=>Zo (fun _=>ZaG (s.vars.length:Int)) 2,fun _=>Zo (fun _=>Zan e (s.vars.length:Int)) 330,fun _=>Zo (fun _=>ZaH e s) 331]).Ret (checkF s e):=by
 have hv:=h.vars
 have h1:(ZaG (s.vars.length:Int)).Ret (decide ((s.vars.length:Int)<4)):=rfl
 have h2:(Zan e (s.vars.length:Int)).Ret (decide (0<=e.at'/\e.at'<=(s.vars.length:Int))):=by
  unfold Zan
  by_cases h0:0<=e.at'
  .rw[if_pos h0]
   exact decide_eq_decide.2 ⟨fun k=>⟨h0,k⟩,fun k=>k.2⟩
  rw[if_neg h0]
  exact (decide_eq_false fun k=>h0 k.1).symm
 have h3:(ZaH e s).Ret (decide (nameB e.name=true/\idxI s.vars e.name<0)):=by
  refine⟨_,Ze4 _,?_⟩
  cases hb:nameB e.name with
  | false=>exact (decide_eq_false fun k=>absurd k.1 (by decide)).symm
  | true=>
   refine⟨_,ZkJ (by omega) _,?_⟩
   show (!decide (0<=idxI s.vars e.name))=_
   by_cases hi:0<=idxI s.vars e.name
   .rw[decide_eq_true hi,decide_eq_false (fun k=>by omega)]; rfl
   rw[decide_eq_false hi,decide_eq_true ⟨rfl,by omega⟩]; rfl
 have e1:checkF s e=(if (if decide ((s.vars.length:Int)<4)=true then (0:Int) else 2)=0 then (if (if decide (0<=e.at'/\e.at'<=(s.vars.length:Int))=true then (0:Int) else 330)=0 then (if decide (nameB e.name=true/\idxI s.vars e.name<0)=true then 0 else 331) else (if decide (0<=e.at'/\e.at'<=(s.vars.length:Int))=true then (0:Int) else 330)) else (if decide ((s.vars.length:Int)<4)=true then (0:Int) else 2)):=by
  unfold checkF
  rw[if_pos hk]
  by_cases c1:4<=s.vars.length
  .rw[if_pos c1,decide_eq_false (show ¬ (s.vars.length:Int)<4 by omega)]; rfl
  rw[if_neg c1,decide_eq_true (show (s.vars.length:Int)<4 by omega)]
  by_cases c2:0<=e.at'/\e.at'<=(s.vars.length:Int)
  .rw[if_neg (show ¬ ¬ _ from fun k=>k c2),decide_eq_true c2]
   by_cases c3:nameB e.name=true/\idxI s.vars e.name<0
   .rw[if_pos c3,decide_eq_true c3]; rfl
   rw[if_neg c3,decide_eq_false c3]; rfl
  rw[if_pos c2,decide_eq_false c2]; rfl
 rw[e1]
 exact first3 (ZM h1 2) (fun _=>ZM h2 330) (fun _ _=>ZM h3 331)
theorem check1{s:Za}{e:Zc}(hk:e.kind=1)(hc:checkF s e=0):s.vars.length<4/\0<=e.at'/\e.at'<=(s.vars.length:Int)/\nameB e.name=true/\idxI s.vars e.name<0:=by
 unfold checkF at hc
 rw[if_pos hk] at hc
 by_cases c1:4<=s.vars.length
 .rw[if_pos c1] at hc; exact absurd hc (by decide)
 rw[if_neg c1] at hc
 by_cases c2:0<=e.at'/\e.at'<=(s.vars.length:Int)
 .rw[if_neg (show ¬ ¬ _ from fun k=>k c2)] at hc
  by_cases c3:nameB e.name=true/\idxI s.vars e.name<0
  .exact⟨by omega,c2.1,c2.2,c3.1,c3.2⟩
  rw[if_neg c3] at hc; exact absurd hc (by decide)
 rw[if_pos c2] at hc; exact absurd hc (by decide)
def shiftM(a n:Nat):M:=fun i=>if a<=i.val/\i.val<n then (i.val:Int)+1 else (i.val:Int)
theorem Zn1{a n:Nat}(h:a<=n):setF (shiftM a n) n (a:Int)=rotF n a:=by
 funext i
 simp only[setF,shiftM,rotF]
 by_cases h1:i.val=n
 .rw[if_pos h1,if_pos h1]
 rw[if_neg h1,if_neg h1]
 by_cases h2:a<=i.val/\i.val<n
 .rw[if_pos h2,if_neg (by omega),if_pos (by omega)]
 rw[if_neg h2,if_neg (by omega),if_neg (by omega)]
theorem ZlZ{s:Za}(hn:s.vars.length<4){a:Nat}(h:a<=s.vars.length):(ZfU s ((a:Int),idM)).Ret (shiftM a s.vars.length):=by
 refine Cq.Zk (s.vars.length-a) (fun k st=>st=(((a+k:Nat):Int),shiftM a (a+k))) (fun k st hk hs=>?_) (fun st hs=>?_) ?_
 .subst hs
  refine Cq.wp.yes (p:=((a+k:Nat):Int)<(s.vars.length:Int)) (by omega) ?_
  refine⟨by omega,?_⟩
  show _=_
  rw[wrapN (by omega)]
  congr 1
  funext i
  simp only[setF,shiftM,Int.toNat_natCast]
  by_cases h1:i.val=a+k
  .rw[if_pos h1,if_pos (by omega)]; omega
  rw[if_neg h1]
  by_cases h2:a<=i.val/\i.val<a+k
  .rw[if_pos h2,if_pos (by omega)]
  rw[if_neg h2,if_neg (by omega)]
 .subst hs
  refine Cq.wp.no (p:=((a+(s.vars.length-a):Nat):Int)<(s.vars.length:Int)) (by omega) ?_
  show _=_
  rw[show a+(s.vars.length-a)=s.vars.length by omega]
 congr 1
 funext i
 simp only[shiftM,idM]
 rw[if_neg (by omega)]
theorem ZmR{s:Za}(h:Good s){e:Zc}(hk:e.kind=1):(ZfA s e).Ret (if checkF s e=0 then (addV s e,0) else (zeroS,checkF s e)):=by
 refine⟨_,rfl,_,rfl,_,rfl,_,Zk1 h hk,?_⟩
 by_cases hc:checkF s e=0
 .obtain⟨h1,h2,h3,h4,h5⟩:=check1 hk hc
  rw[if_pos hc,Cq.Zd,if_neg (fun hh=>hh hc)]
  obtain⟨a,ha⟩:=Int.eq_ofNat_of_zero_le h2
  have ha2:a<=s.vars.length:=by omega
  refine⟨_,ZeD,?_⟩
  show (Cq.next _ _).wp _
  rw[ha]
  refine (ZlZ h1 ha2).then ?_
  have hperm:setF (shiftM a s.vars.length) ((s.vars.length:Int).toNat) e.at'=rotF s.vars.length a:=by rw[ha,Int.toNat_natCast]; exact Zn1 ha2
  refine⟨⟨by omega,by omega⟩,permS (rotF s.vars.length a) s,by rw[hperm]; exact ZfH (Za4 (by omega) (by omega)) h,s.vars,ZeW (l:=s.vars) (by omega),_,⟨⟨⟨h2,h3⟩,rfl,by omega⟩,rfl⟩,?_⟩
  show _=_
  unfold addV
  rw[ha]
  rfl
 rw[if_neg hc,Cq.Zd,if_pos hc]
 rfl
theorem ZmA{s:Za}(h:Good s){e:Zc}(hp:PolOk e.p)(hk:e.kind=1):(Zaa s e).Ret (if checkF s e=0 then (addV s e,0) else (zeroS,checkF s e)):=by
 refine⟨_,ZaQ h hp,?_⟩
 by_cases hc:checkF s e=0
 .obtain⟨h1,h2,h3,h4,h5⟩:=check1 hk hc
  rw[if_pos hc,Cq.Zd,if_neg (fun hh=>hh hc)]
  obtain⟨a,ha⟩:=Int.eq_ofNat_of_zero_le h2
  have ha2:a<=s.vars.length:=by omega
  refine⟨by simp[small]; omega,?_⟩
  rw[Cq.Zd,if_pos hk,ha]
  have he:=h.eqs.len
  have hn:=h.neqs.len
  have hπ:=Za4 (a:=s.vars.length) (b:=a) (by omega) (by omega)
  have hr:=ZfI (a:=s.vars.length) (b:=a) (by omega) (by omega)
  refine⟨⟨by omega,by omega,by omega⟩,by simp[small]; omega,by simp[small]; omega,⟨by omega,by omega,by omega⟩,by simp[small]; omega,_,hr,_,ZcA hπ (by omega) (fun q hq=>(h.eqs.pol q hq).1),_,hr,_,ZcA hπ (by omega) (fun q hq=>(h.neqs.pol q hq).1),?_⟩
  show _=_
  unfold addV
  rw[ha]
  simp
 rw[if_neg hc,Cq.Zd,if_pos hc]
 rfl
end Go.EL

namespace Go.EL
open Go.IntKind (i8 i16 i32 i64 u8 u16 u32 u64)
open Go Go.RowKit
def renV(s:Za)(e:Zc):Za:=⟨s.vars.set e.at'.toNat e.name,s.eqs,s.neqs,s.next⟩
theorem check3{s:Za}{e:Zc}(hk:e.kind=3)(hc:checkF s e=0):isV s e.at'=true/\nameB e.name=true/\(idxI s.vars e.name<0\/idxI s.vars e.name=e.at'):=by
 unfold checkF at hc
 rw[if_neg (by omega),if_neg (by omega),if_pos hk] at hc
 by_cases c1:isV s e.at'=true
 .rw[if_pos c1] at hc
  by_cases c2:nameB e.name=true/\(idxI s.vars e.name<0\/idxI s.vars e.name=e.at')
  .exact⟨c1,c2⟩
  rw[if_neg c2] at hc; exact absurd hc (by decide)
 rw[if_neg c1] at hc; exact absurd hc (by decide)
theorem Zna{s:Za}(h:Good s){e:Zc}(hk:e.kind=3):(ZfB s e).Ret (if checkF s e=0 then (renV s e,0) else (zeroS,checkF s e)):=by
 have hv:=h.vars
 have h2:(ZaI s e).Ret (decide (nameB e.name=true/\(idxI s.vars e.name<0\/idxI s.vars e.name=e.at'))):=by
  refine⟨_,ZjU (by omega) _,_,Ze4 _,?_⟩
  cases hb:nameB e.name with
  | false=>exact (decide_eq_false fun k=>absurd k.1 (by decide)).symm
  | true=>
   show (if idxI s.vars e.name<0 then _ else _:Cq Bool).wp _
   rw[Cq.Zd]
   by_cases hi:idxI s.vars e.name<0
   .rw[if_pos hi]
    exact (decide_eq_true ⟨rfl,.inl hi⟩).symm
   rw[if_neg hi]
   exact decide_eq_decide.2 ⟨fun k=>⟨rfl,.inr k⟩,fun k=>k.2.resolve_left hi⟩
 have hfirst:(ZA [fun _=>Zo (fun _=>ZY e.at' s) 330,fun _=>Zo (fun _=>ZaI s e) 331]).Ret (checkF s e):=by
  have e1:checkF s e=(if (if isV s e.at'=true then (0:Int) else 330)=0 then (if decide (nameB e.name=true/\(idxI s.vars e.name<0\/idxI s.vars e.name=e.at'))=true then (0:Int) else 331) else (if isV s e.at'=true then (0:Int) else 330)):=by
   unfold checkF
   rw[if_neg (by omega),if_neg (by omega),if_pos hk]
   by_cases c1:isV s e.at'=true
   .rw[if_pos c1,if_pos c1]
    by_cases c2:nameB e.name=true/\(idxI s.vars e.name<0\/idxI s.vars e.name=e.at')
    .rw[if_pos c2,decide_eq_true c2]; rfl
    rw[if_neg c2,decide_eq_false c2]; rfl
   rw[if_neg c1,if_neg c1]; rfl
  rw[e1]
  exact first2 (ZM (Zi7 s e.at') 330) (fun _=>ZM h2 331)
 refine⟨_,rfl,_,rfl,_,rfl,_,hfirst,?_⟩
 by_cases hc:checkF s e=0
 .obtain⟨h3,h4,h5⟩:=check3 hk hc
  have h6:=of_decide_eq_true h3
  rw[if_pos hc,Cq.Zd,if_neg (fun hh=>hh hc)]
  have hlt:e.at'.toNat<s.vars.length:=by omega
  exact⟨_,ZeW (by omega),s.vars[e.at'.toNat],⟨h6.1,List.getElem?_eq_getElem hlt⟩,rfl⟩
 rw[if_neg hc,Cq.Zd,if_pos hc]
 rfl
theorem ZmC{s:Za}(h:Good s){e:Zc}(hp:PolOk e.p)(hk:e.kind=3):(Zaa s e).Ret (if checkF s e=0 then (renV s e,0) else (zeroS,checkF s e)):=by
 have hv:=h.vars
 refine⟨_,ZaQ h hp,?_⟩
 by_cases hc:checkF s e=0
 .obtain⟨h3,h4,h5⟩:=check3 hk hc
  have h6:=of_decide_eq_true h3
  have hlt:e.at'.toNat<s.vars.length:=by omega
  rw[if_pos hc,Cq.Zd,if_neg (fun hh=>hh hc)]
  refine⟨by simp[small]; omega,?_⟩
  rw[Cq.Zd,if_neg (by omega),Cq.Zd,if_neg (by omega),Cq.Zd,if_pos hk]
  exact⟨s.vars[e.at'.toNat],⟨h6.1,List.getElem?_eq_getElem hlt⟩,rfl⟩
 rw[if_neg hc,Cq.Zd,if_pos hc]
 rfl
def swpV(s:Za)(e:Zc):Za:=
 ⟨(s.vars.set e.at'.toNat (s.vars.getD e.to'.toNat ByteArray.empty)).set e.to'.toNat (s.vars.getD e.at'.toNat ByteArray.empty),movedL (swapF e.at'.toNat e.to'.toNat) s.eqs,movedL (swapF e.at'.toNat e.to'.toNat) s.neqs,s.next⟩
theorem check4{s:Za}{e:Zc}(hk:e.kind=4)(hc:checkF s e=0):isV s e.at'=true/\isV s e.to'=true:=by
 unfold checkF at hc
 rw[if_neg (by omega),if_neg (by omega),if_neg (by omega),if_pos hk] at hc
 by_cases c1:isV s e.at'=true/\isV s e.to'=true
 .exact c1
 rw[if_neg c1] at hc; exact absurd hc (by decide)
theorem ZoS{s:Za}(h:Good s){e:Zc}(hk:e.kind=4):(Zhg s e).Ret (if checkF s e=0 then (swpV s e,0) else (zeroS,checkF s e)):=by
 have hv:=h.vars
 have hfirst:(ZA [fun _=>Zo (fun _=>ZY e.at' s) 330,fun _=>Zo (fun _=>ZY e.to' s) 330]).Ret (checkF s e):=by
  have e1:checkF s e=(if (if isV s e.at'=true then (0:Int) else 330)=0 then (if isV s e.to'=true then (0:Int) else 330) else (if isV s e.at'=true then (0:Int) else 330)):=by
   unfold checkF
   rw[if_neg (by omega),if_neg (by omega),if_neg (by omega),if_pos hk]
   cases isV s e.at' <;> cases isV s e.to' <;> rfl
  rw[e1]
  exact first2 (ZM (Zi7 s e.at') 330) (fun _=>ZM (Zi7 s e.to') 330)
 refine⟨_,rfl,_,rfl,_,rfl,_,rfl,_,hfirst,?_⟩
 by_cases hc:checkF s e=0
 .obtain⟨h3,h4⟩:=check4 hk hc
  have h5:=of_decide_eq_true h3
  have h6:=of_decide_eq_true h4
  obtain⟨a,ha⟩:=Int.eq_ofNat_of_zero_le h5.1
  obtain⟨b,hb⟩:=Int.eq_ofNat_of_zero_le h6.1
  have ha2:a<s.vars.length:=by omega
  have hb2:b<s.vars.length:=by omega
  rw[if_pos hc,Cq.Zd,if_neg (fun hh=>hh hc),ha,hb]
  refine⟨_,ZeD,⟨by omega,by omega⟩,⟨by omega,by omega⟩,permS (swapF a b) s,ZfH (swap_perm (by omega) (by omega)) h,s.vars,ZeW (l:=s.vars) (by omega),s.vars[b],idxN hb2,s.vars[a],idxN ha2,s.vars[a],idxN ha2,?_⟩
  have hx:∃ x5,(s.vars.set (a:Int).toNat s.vars[b])[(b:Int).toNat]? = some x5:=⟨_,List.getElem?_eq_getElem (by simp; omega)⟩
  obtain⟨x5,hx5⟩:=hx
  refine⟨x5,⟨by omega,hx5⟩,?_⟩
  show _=_
  unfold swpV
  rw[ha,hb]
  simp only[Int.toNat_natCast,List.getD_eq_getElem?_getD,List.getElem?_eq_getElem ha2,List.getElem?_eq_getElem hb2,Option.getD_some]
  rfl
 rw[if_neg hc,Cq.Zd,if_pos hc]
 rfl
theorem ZmD{s:Za}(h:Good s){e:Zc}(hp:PolOk e.p)(hk:e.kind=4):(Zaa s e).Ret (if checkF s e=0 then (swpV s e,0) else (zeroS,checkF s e)):=by
 have hv:=h.vars
 refine⟨_,ZaQ h hp,?_⟩
 by_cases hc:checkF s e=0
 .obtain⟨h3,h4⟩:=check4 hk hc
  have h5:=of_decide_eq_true h3
  have h6:=of_decide_eq_true h4
  obtain⟨a,ha⟩:=Int.eq_ofNat_of_zero_le h5.1
  obtain⟨b,hb⟩:=Int.eq_ofNat_of_zero_le h6.1
  have ha2:a<s.vars.length:=by omega
  have hb2:b<s.vars.length:=by omega
  have he:=h.eqs.len
  have hn:=h.neqs.len
  have hπ:=swap_perm (a:=a) (b:=b) (by omega) (by omega)
  have hr:=ZfI (a:=0) (b:=0) (by omega) (by omega)
  rw[ZoO] at hr
  rw[if_pos hc,Cq.Zd,if_neg (fun hh=>hh hc)]
  refine⟨by simp[small]; omega,?_⟩
  rw[Cq.Zd,if_neg (by omega),Cq.Zd,if_neg (by omega),Cq.Zd,if_neg (by omega),Cq.Zd,if_pos hk,ha,hb]
  have hx:∃ x5,(s.vars.set (a:Int).toNat s.vars[b])[(b:Int).toNat]? = some x5:=⟨_,List.getElem?_eq_getElem (by simp; omega)⟩
  obtain⟨x5,hx5⟩:=hx
  refine⟨_,hr,⟨by omega,by omega⟩,⟨by omega,by omega⟩,s.vars[b],idxN hb2,s.vars[a],idxN ha2,s.vars[a],idxN ha2,x5,⟨by omega,hx5⟩,movedL (swapF a b) s.eqs,ZcA hπ (by omega) (fun q hq=>(h.eqs.pol q hq).1),movedL (swapF a b) s.neqs,ZcA hπ (by omega) (fun q hq=>(h.neqs.pol q hq).1),?_⟩
  show _=_
  unfold swpV
  rw[ha,hb]
  simp only[Int.toNat_natCast,List.getD_eq_getElem?_getD,List.getElem?_eq_getElem ha2,List.getElem?_eq_getElem hb2,Option.getD_some]
  rfl
 rw[if_neg hc,Cq.Zd,if_pos hc]
 rfl
end Go.EL

namespace Go.EL
open Go.IntKind (i8 i16 i32 i64 u8 u16 u32 u64)
open Go Go.RowKit
def dropV(s:Za)(e:Zc):Za:=
 ⟨s.vars.take e.at'.toNat++s.vars.drop (e.at'.toNat+1),movedL (rotF e.at'.toNat (s.vars.length-1)) s.eqs,movedL (rotF e.at'.toNat (s.vars.length-1)) s.neqs,s.next⟩
theorem check2{s:Za}{e:Zc}(hk:e.kind=2)(hc:checkF s e=0):isV s e.at'=true/\usedAt s e.at'=false:=by
 unfold checkF at hc
 rw[if_neg (by omega),if_pos hk] at hc
 cases c1:isV s e.at' with
 | false=>rw[c1,if_neg (by decide)] at hc; exact absurd hc (by decide)
 | true=>
  rw[c1,if_pos rfl] at hc
  cases c2:usedAt s e.at' with
  | false=>exact⟨rfl,rfl⟩
  | true=>rw[c2,if_pos rfl] at hc; exact absurd hc (by decide)
def downM(a n k:Nat):M:=fun i=>if i.val=a then (n:Int)-1 else if a<i.val/\i.val<k then (i.val:Int)-1 else (i.val:Int)
theorem Zox{a n:Nat}(h:a<n):downM a n n=rotF a (n-1):=by
 funext i
 simp only[downM,rotF]
 by_cases h1:i.val=a
 .rw[if_pos h1,if_pos h1]; omega
 rw[if_neg h1,if_neg h1]
 by_cases h2:a<i.val/\i.val<n
 .rw[if_pos h2,if_pos (by omega)]
 rw[if_neg h2,if_neg (by omega),if_neg (by omega)]
theorem Zk4{s:Za}(hn:s.vars.length<=4){a:Nat}(h:a<s.vars.length):(Ze3 s (((a+1:Nat):Int),downM a s.vars.length (a+1))).Ret (downM a s.vars.length s.vars.length):=by
 refine Cq.Zk (s.vars.length-(a+1)) (fun k st=>st=(((a+1+k:Nat):Int),downM a s.vars.length (a+1+k))) (fun k st hk hs=>?_) (fun st hs=>?_) rfl
 .subst hs
  refine Cq.wp.yes (p:=((a+1+k:Nat):Int)<(s.vars.length:Int)) (by omega) ?_
  refine⟨by omega,?_⟩
  show _=_
  rw[wrapN (by omega),wrap64 (by omega)]
  congr 1
  funext i
  simp only[setF,downM,Int.toNat_natCast]
  by_cases h1:i.val=a+1+k
  .rw[if_pos h1,if_neg (by omega),if_pos (by omega)]; omega
  rw[if_neg h1]
  by_cases h2:i.val=a
  .rw[if_pos h2,if_pos h2]
  rw[if_neg h2,if_neg h2]
  by_cases h3:a<i.val/\i.val<a+1+k
  .rw[if_pos h3,if_pos (by omega)]
  rw[if_neg h3,if_neg (by omega)]
 subst hs
 refine Cq.wp.no (p:=((a+1+(s.vars.length-(a+1)):Nat):Int)<(s.vars.length:Int)) (by omega) ?_
 show _=_
 rw[show a+1+(s.vars.length-(a+1))=s.vars.length by omega]
theorem Zl4{s:Za}(h:Good s){e:Zc}(hk:e.kind=2):(ZeB s e).Ret (if checkF s e=0 then (dropV s e,0) else (zeroS,checkF s e)):=by
 have hv:=h.vars
 have hfirst:(ZA [fun _=>Zo (fun _=>ZY e.at' s) 330,fun _=>Zo (fun _=>Zay s e) 333]).Ret (checkF s e):=by
  have e1:checkF s e=(if (if isV s e.at'=true then (0:Int) else 330)=0 then (if (!usedAt s e.at')=true then (0:Int) else 333) else (if isV s e.at'=true then (0:Int) else 330)):=by
   unfold checkF
   rw[if_neg (by omega),if_pos hk]
   cases isV s e.at' <;> cases usedAt s e.at' <;> rfl
  rw[e1]
  refine first2 (ZM (Zi7 s e.at') 330) (fun h0=>?_)
  have hb:isV s e.at'=true:=by
   cases hb:isV s e.at' with
   | true=>rfl
   | false=>rw[hb] at h0; exact absurd h0 (by decide)
  obtain⟨j,hj,hu⟩:=Zfg hv hb
  rw[hu]
  exact ZM (Zni h j hj) 333
 refine⟨_,rfl,_,rfl,_,rfl,_,hfirst,?_⟩
 by_cases hc:checkF s e=0
 .obtain⟨h3,h4⟩:=check2 hk hc
  have h5:=of_decide_eq_true h3
  obtain⟨a,ha⟩:=Int.eq_ofNat_of_zero_le h5.1
  have ha2:a<s.vars.length:=by omega
  rw[if_pos hc,Cq.Zd,if_neg (fun hh=>hh hc),ha]
  refine⟨_,ZeD,⟨by omega,by omega⟩,?_⟩
  show (Cq.next _ _).wp _
  have hst:setF idM (a:Int).toNat (i64.wrap ((s.vars.length:Int)-1))=downM a s.vars.length (a+1):=by
   rw[wrap64 (by omega)]
   funext i
   simp only[setF,idM,downM,Int.toNat_natCast]
   by_cases h1:i.val=a
   .rw[if_pos h1,if_pos h1]
   rw[if_neg h1,if_neg h1,if_neg (by omega)]
  rw[hst,wrapN (by omega)]
  refine (Zk4 hv ha2).then ?_
  rw[Zox ha2]
  refine⟨permS (rotF a (s.vars.length-1)) s,ZfH (Za4 (by omega) (by omega)) h,s.vars,ZeW (l:=s.vars) (by omega),_,⟨⟨by omega,by rw[ha]; rw[wrapN (by omega)]; omega,by rw[ha]; rw[wrapN (by omega)]; omega,by omega⟩,rfl⟩,?_⟩
  show _=_
  unfold dropV
  rw[ha,wrapN (by omega)]
  rfl
 rw[if_neg hc,Cq.Zd,if_pos hc]
 rfl
theorem ZmB{s:Za}(h:Good s){e:Zc}(hp:PolOk e.p)(hk:e.kind=2):(Zaa s e).Ret (if checkF s e=0 then (dropV s e,0) else (zeroS,checkF s e)):=by
 have hv:=h.vars
 refine⟨_,ZaQ h hp,?_⟩
 by_cases hc:checkF s e=0
 .obtain⟨h3,h4⟩:=check2 hk hc
  have h5:=of_decide_eq_true h3
  obtain⟨a,ha⟩:=Int.eq_ofNat_of_zero_le h5.1
  have ha2:a<s.vars.length:=by omega
  have he:=h.eqs.len
  have hn:=h.neqs.len
  have hπ:=Za4 (a:=a) (b:=s.vars.length-1) (by omega) (by omega)
  have hr:=ZfI (a:=a) (b:=s.vars.length-1) (by omega) (by omega)
  have hw:i64.wrap ((s.vars.length:Int)-1)=((s.vars.length-1:Nat):Int):=by rw[wrap64 (by omega)]; omega
  rw[if_pos hc,Cq.Zd,if_neg (fun hh=>hh hc)]
  refine⟨by simp[small]; omega,?_⟩
  rw[Cq.Zd,if_neg (by omega),Cq.Zd,if_pos hk,ha,wrapN (by omega),hw]
  refine⟨⟨by omega,by omega,by omega⟩,by simp[small]; omega,⟨by omega,by omega,by omega⟩,by simp[small]; omega,_,hr,_,ZcA hπ (by omega) (fun q hq=>(h.eqs.pol q hq).1),_,hr,_,ZcA hπ (by omega) (fun q hq=>(h.neqs.pol q hq).1),?_⟩
  show _=_
  unfold dropV
  rw[ha]
  simp
 rw[if_neg hc,Cq.Zd,if_pos hc]
 rfl
end Go.EL

namespace Go.EL
open Go.IntKind (i8 i16 i32 i64 u8 u16 u32 u64)
open Go Go.RowKit
def findQ(l:List Zb)(id:Int):Option Zb:=l.find? fun q=>decide (q.id=id)
theorem ZdY(id:Int):∀ (l:List Zb) (k:Nat),(findQ l id=none/\findFrom id l k = -1)\/∃ j q,findQ l id=some q/\findFrom id l k=((k+j:Nat):Int)/\l[j]? = some q
 | [],_=>.inl ⟨rfl,rfl⟩
 | x::xs,k=>by
  unfold findQ
  simp only[findFrom,List.find?_cons]
  by_cases h:x.id=id
  .rw[if_pos h,decide_eq_true h]
   exact .inr ⟨0,x,rfl,by simp,rfl⟩
  rw[if_neg h,decide_eq_false h]
  rcases ZdY id xs (k+1) with ⟨h1,h2⟩|⟨j,q,h1,h2,h3⟩
  .exact .inl ⟨h1,h2⟩
  exact .inr ⟨j+1,q,h1,by rw[h2]; omega,by simpa using h3⟩
theorem ZaV(l:List Zb)(id:Int):(findQ l id=none/\findI l id = -1)\/∃ j q,findQ l id=some q/\findI l id=((j:Nat):Int)/\l[j]? = some q:=by
 rcases ZdY id l 0 with h|⟨j,q,h1,h2,h3⟩
 .exact .inl h
 exact .inr ⟨j,q,h1,by unfold findI; rw[h2]; simp,h3⟩
theorem ZcS{l:List Zb}{id:Int}:decide (0<=findI l id)=(findQ l id).isSome:=by
 rcases ZaV l id with ⟨h1,h2⟩|⟨j,q,h1,h2,_⟩
 .rw[h1,h2]; rfl
 rw[h1,h2,decide_eq_true (by omega)]; rfl
def findE(s:Za)(id:Int):Zb×Bool×Bool:=
 match findQ s.eqs id with
 | some q=>(q,false,true)
 | none=>match findQ s.neqs id with
  | some q=>(q,true,true)
  | none=>(⟨0,[]⟩,false,false)
theorem Zhi(s:Za)(id:Int):(findE s id).2.2=hasB s id:=by
 unfold findE hasB
 rw[ZcS,ZcS]
 cases findQ s.eqs id with
 | some q=>rfl
 | none=>
  cases findQ s.neqs id <;> rfl
theorem ZmW{l:List Zb}{k:Nat}(hk:k<l.length)(id:Int):findQ (l.drop k) id=if l[k].id=id then some l[k] else findQ (l.drop (k+1)) id:=by
 rw[List.drop_eq_getElem_cons hk]
 unfold findQ
 rw[List.find?_cons]
 by_cases h:l[k].id=id
 .rw[if_pos h,decide_eq_true h]
 rw[if_neg h,decide_eq_false h]
theorem ZjT{l:List Zb}(hl:l.length<=100)(id v:Int)(b:Zb):(Zf1 id v l (0,b)).Ret (match findQ l id with|some q=>.inl (q,decide (v=1),true)|none=>.inr b):=by
 refine Cq.Zk l.length (fun k st=>st=((k:Int),b)/\findQ l id=findQ (l.drop k) id) (fun k st hk hs=>?_) (fun st hs=>?_) ⟨rfl,rfl⟩
 .obtain⟨rfl,he⟩:=hs
  rw[ZmW hk] at he
  refine Cq.wp.yes (p:=(k:Int)<(l.length:Int)) (by omega) ?_
  refine⟨l[k],idxN hk,?_⟩
  rw[Cq.Zd]
  by_cases h:l[k].id=id
  .rw[if_pos h] at he ⊢
   rw[he]; rfl
  rw[if_neg h] at he ⊢
  exact⟨by rw[wrapN (by omega)],he⟩
 obtain⟨rfl,he⟩:=hs
 show (if ((l.length:Nat):Int)<(l.length:Int) then _ else _:Cq _).wp _
 rw[Cq.Zd,if_neg (by omega),he,List.drop_length]
 rfl
theorem Zil{s:Za}(h:Good s)(id:Int):(Zb8 s id).Ret (findE s id):=by
 have he:=h.eqs.len
 have hn:=h.neqs.len
 show (Cq.next _ _).wp _
 refine Cq.Zk 2 (fun k st=>st=((k:Int),(⟨0,[]⟩:Zb))/\(1<=k->findQ s.eqs id=none)/\(2<=k->findQ s.neqs id=none)) (fun k st hk hs=>?_) (fun st hs=>?_) ⟨rfl,fun hh=>absurd hh (by decide),fun hh=>absurd hh (by decide)⟩
 .obtain⟨rfl,h1,h2⟩:=hs
  rcases (show k=0\/k=1 by omega) with rfl|rfl
  .refine⟨s.eqs,⟨by omega,rfl⟩,?_⟩
   show (Cq.next _ _).wp _
   refine (ZjT (by omega) id _ _).then ?_
   cases hf:findQ s.eqs id with
   | some q=>
    show _=findE s id
    unfold findE
    rw[hf]; rfl
   | none=>exact⟨rfl,fun _=>rfl,fun hh=>absurd hh (by decide)⟩
  have h1:=h1 (by omega)
  refine⟨s.neqs,⟨by omega,rfl⟩,?_⟩
  show (Cq.next _ _).wp _
  refine (ZjT (by omega) id _ _).then ?_
  cases hf:findQ s.neqs id with
  | some q=>
   show _=findE s id
   unfold findE
   rw[h1,hf]; rfl
  | none=>exact⟨rfl,fun _=>h1,fun _=>rfl⟩
 obtain⟨rfl,h1,h2⟩:=hs
 show _=findE s id
 unfold findE
 rw[h1 (by omega),h2 (by omega)]
theorem ZdB{s:Za}(h:Good s)(id:Int):(ZV s id).Ret (hasB s id):=⟨_,Zil h id,Zhi s id⟩
theorem Zlb{s:Za}{p:List Ze}(hp:PolOk p):(Zao p s).Ret (fitB p (s.vars.length:Int)):=by
 refine⟨true,ZcY hp,_,Zit hp.len,by omega,?_⟩
 unfold fitB
 rw[Cq.Zd]
 split
 .exact⟨_,ZhX hp,rfl⟩
 rfl
end Go.EL

namespace Go.EL
open Go.IntKind (i8 i16 i32 i64 u8 u16 u32 u64)
open Go Go.RowKit
theorem Zku{l:List Zb}(hl:l.length<=100)(id:Int):(Zz l id).Ret (findI l id):=by
 refine Cq.Zk l.length (fun k s=>s=(k:Int)/\findI l id=findFrom id (l.drop k) k) (fun k s hk hs=>?_) (fun s hs=>?_) ⟨rfl,rfl⟩
 .obtain⟨rfl,he⟩:=hs
  rw[List.drop_eq_getElem_cons hk] at he
  simp only[findFrom] at he
  rw[Cq.Zd,if_pos (by omega)]
  refine⟨l[k],idxN hk,_,rfl,?_⟩
  rw[Cq.Zd]
  by_cases h:l[k].id=id
  .rw[if_pos h] at he
   rw[if_pos (decide_eq_true h)]
   exact he.symm
  rw[if_neg h] at he
  rw[if_neg (by simpa using h)]
  exact⟨wrapN (by omega),he⟩
 obtain⟨rfl,he⟩:=hs
 rw[Cq.Zd,if_neg (by omega)]
 rw[List.drop_length] at he
 exact he.symm
theorem Zib{id:Int}:∀ (l:List Zb) (k:Nat) {j:Nat},findFrom id l k=((k+j:Nat):Int)->j<l.length/\dropL (l.take (j+1)) id=l.take j
 | [],k,j,h=>by simp[findFrom] at h; omega
 | x::xs,k,j,h=>by
  simp only[findFrom] at h
  by_cases hx:x.id=id
  .rw[if_pos hx] at h
   obtain rfl:j=0:=by omega
   exact⟨by simp,by simp[dropL,hx]⟩
  rw[if_neg hx] at h
  have hj:0<j:=by
   rcases ZdY id xs (k+1) with ⟨_,h2⟩|⟨i,q,_,h2,_⟩ <;> omega
  obtain⟨i,rfl⟩:∃ i,j=i+1:=⟨j-1,by omega⟩
  obtain⟨h1,h2⟩:=Zib xs (k+1) (j:=i) (by rw[h]; omega)
  refine⟨by simp; omega,?_⟩
  unfold dropL at h2 ⊢
  rw[List.take_succ_cons,List.filter_cons,if_pos (by simpa using hx),h2,List.take_succ_cons]
theorem Zgj{l:List Zb}{id:Int}(h:findI l id = -1):dropL l id=l:=by
 unfold dropL
 rw[List.filter_eq_self]
 intro q hq
 rcases ZaV l id with ⟨h1,_⟩|⟨j,q',_,h2,_⟩
 .unfold findQ at h1
  have:=List.find?_eq_none.1 h1 q hq
  simpa using this
 omega
theorem ZfN{l:List Zb}(hl:l.length<=100)(id:Int):(Zv l id).Ret (dropL l id):=by
 refine⟨_,Zku hl id,?_⟩
 rcases ZaV l id with ⟨_,h2⟩|⟨j,q,_,h2,_⟩
 .rw[Cq.Zd,if_pos h2,Zgj h2]
  rfl
 obtain⟨hj,h3⟩:=Zib l 0 (j:=j) (by unfold findI at h2; rw[h2]; simp)
 rw[Cq.Zd,if_neg (by omega),h2]
 show (Cq.next _ _).wp _
 refine Cq.Zk (l.length-(j+1)) (fun k st=>∃ (s3:List Zb) (i:Nat),st=(s3,(i:Int),((j+1+k:Nat):Int))/\i<j+1+k/\s3.length=l.length/\s3.take i=dropL (l.take (j+1+k)) id/\s3.drop (j+1+k)=l.drop (j+1+k)) (fun k st hk hs=>?_) (fun st hs=>?_) ⟨l,j,by rw[wrapN (by omega)],by omega,rfl,h3.symm,rfl⟩
 .obtain⟨s3,i,rfl,hi,hlen,ht,hd⟩:=hs
  have hk':j+1+k<l.length:=by omega
  have hk3:j+1+k<s3.length:=by omega
  have hx:s3[j+1+k]=l[j+1+k]:=by
   have:=congrArg (·[0]?) hd
   simpa [List.getElem?_drop,List.getElem?_eq_getElem hk',List.getElem?_eq_getElem hk3] using this
  have hd1:s3.drop (j+1+k+1)=l.drop (j+1+k+1):=by
   have:=congrArg (List.drop 1) hd
   rwa [List.drop_drop,List.drop_drop] at this
  have ef:=Zbm hk' fun q=>decide (¬ q.id=id)
  refine Cq.wp.yes (p:=((j+1+k:Nat):Int)<(s3.length:Int)) (by omega) ?_
  refine⟨s3[j+1+k],idxN hk3,_,rfl,?_⟩
  rw[Cq.Zd,hx]
  by_cases hid:l[j+1+k].id=id
  .rw[if_neg (by simp[hid])]
   refine⟨s3,i,by rw[wrapN (by omega)]; rfl,by omega,hlen,?_,?_⟩
   .rw[ht]
    unfold dropL
    rw[show j+1+(k+1)=j+1+k+1 by omega,ef,if_neg (by simp[hid]),List.append_nil]
   rw[show j+1+(k+1)=j+1+k+1 by omega,hd1]
  rw[if_pos (by simp[hid])]
  refine⟨s3[i]'(by omega),idxN (by omega),s3.set i l[j+1+k],i+1,by rw[wrapN (by omega),wrapN (by omega)]; rfl,by omega,by simp[hlen],?_,?_⟩
  .unfold dropL at ht ⊢
   rw[show j+1+(k+1)=j+1+k+1 by omega,ef,if_pos (by simp[hid]),<- ht]
   rw[List.take_set,List.take_succ_eq_append_getElem (by omega),List.set_append_right _ _ (by simp; omega)]
   simp[Nat.min_eq_left (show i<=s3.length by omega)]
  rw[show j+1+(k+1)=j+1+k+1 by omega,List.drop_set_of_lt (by omega),hd1]
 obtain⟨s3,i,rfl,hi,hlen,ht,hd⟩:=hs
 have e:j+1+(l.length-(j+1))=l.length:=by omega
 rw[e] at hi ht
 refine Cq.wp.no (p:=((j+1+(l.length-(j+1)):Nat):Int)<(s3.length:Int)) (by omega) ?_
 show (Zt s3 (i:Int)).wp _
 refine⟨⟨by omega,by omega,by omega⟩,⟨by omega,by omega,by simp; omega⟩,?_⟩
 show _=_
 rw[List.take_length] at ht
 rw[Int.toNat_natCast,List.take_append_of_le_length (by simp; omega),List.take_take,Nat.min_self,ht]
end Go.EL

namespace Go.EL
open Go.IntKind (i8 i16 i32 i64 u8 u16 u32 u64)
open Go Go.RowKit
theorem half{i j:Nat}(h:i+j<=200):i64.wrap (Int.fdiv (u64.wrap (i64.wrap ((i:Int)+(j:Int)))) (2 ^ (min (1:Int).toNat u64.bits)))=(((i+j) / 2:Nat):Int):=by
 rw[wrap64 (x:=(i:Int)+(j:Int)) (by omega)]
 have hu:u64.wrap ((i:Int)+(j:Int))=(((i+j:Nat)):Int):=by
  simp only[IntKind.wrap,IntKind.bits,IntKind.signed,Bool.false_and,Bool.false_eq_true,if_false]
  omega
 rw[hu,show min (1:Int).toNat u64.bits=1 from rfl,Zk9,wrap64 (by rw[Nat.shiftRight_eq_div_pow]; omega)]
 rw[Nat.shiftRight_eq_div_pow]
theorem ZlH(a b:Int):(ZcM a b).Ret (if a<b then -1 else if b<a then 1 else 0):=by
 refine⟨false,?_,false,?_,?_⟩
 .exact (decide_eq_false (fun h=>h rfl):decide (¬ a=a)=false)
 .exact (decide_eq_false (fun h=>h rfl):decide (¬ b=b)=false)
 rw[Cq.Zd,if_neg (by decide),Cq.Zd,if_neg (by decide),Cq.Zd]
 by_cases h:a<b
 .rw[if_pos h,if_pos h]; rfl
 rw[if_neg h,if_neg h,Cq.Zd]
 by_cases h2:b<a
 .rw[if_pos h2,if_pos h2]; rfl
 rw[if_neg h2,if_neg h2]; rfl
theorem ZgJ(q:Zb)(id:Int):(ZbU q id).Ret (if q.id<id then -1 else if id<q.id then 1 else 0):=⟨_,ZlH _ _,rfl⟩
theorem ZmQ{l:List Zb}(hl:l.length<=100)(hi:l.Pairwise fun a b=>a.id<b.id){id:Int}(hnew:∀ q ∈ l,q.id≠id):
  (Zn l id).wp (fun r=>∃ k:Nat,k<=l.length/\r=((k:Int),false)/\(∀ m (hm:m<l.length),m<k->l[m].id<id)/\∀ m (hm:m<l.length),k<=m->id<l[m].id):=by
 have hpw:=List.pairwise_iff_getElem.1 hi
 show (Cq.next _ _).wp _
 refine Cq.ZeJ (fun st=>∃ a b:Nat,st=((a:Int),(b:Int))/\a<=b/\b<=l.length/\(∀ m (hm:m<l.length),m<a->l[m].id<id)/\∀ m (hm:m<l.length),b<=m->id<l[m].id) (fun st=>st.2.toNat-st.1.toNat) (fun st hs=>?_) _ ⟨0,l.length,rfl,by omega,by omega,fun m _ h=>by omega,fun m h1 h2=>by omega⟩
 obtain⟨a,b,rfl,h1,h2,h3,h4⟩:=hs
 show (if (a:Int)<(b:Int) then _ else _:Cq _).wp _
 rw[Cq.Zd]
 split
 .rename_i hab
  have hm:(a+b) / 2<l.length:=by omega
  rw[half (by omega)]
  refine⟨l[(a+b) / 2],idxN hm,_,ZgJ _ _,?_⟩
  have hne:=hnew _ (List.getElem_mem hm)
  rw[Cq.Zd]
  by_cases hlt:l[(a+b) / 2].id<id
  .rw[if_pos (by rw[if_pos hlt]; decide)]
   refine⟨⟨(a+b) / 2+1,b,by rw[wrapN (by omega)],by omega,h2,fun m hm' hma=>?_,h4⟩,by rw[wrapN (by omega)]; simp; omega⟩
   by_cases e:m=(a+b) / 2
   .subst e; exact hlt
   have:=hpw m ((a+b) / 2) hm' hm (by omega); omega
  rw[if_neg (by rw[if_neg hlt]; split <;> decide)]
  refine⟨⟨a,(a+b) / 2,rfl,by omega,by omega,h3,fun m hm' hma=>?_⟩,by simp; omega⟩
  by_cases e:m=(a+b) / 2
  .subst e; omega
  have:=hpw ((a+b) / 2) m hm hm' (by omega); omega
 rename_i hab
 obtain rfl:a=b:=by omega
 show (Zp l id (a:Int)).wp _
 unfold Zp
 rw[Cq.Zd]
 split
 .rename_i hal
  have hg:=h4 a (by omega) (by omega)
  refine⟨l[a]'(by omega),idxN (by omega),_,ZgJ _ _,a,h2,?_,h3,h4⟩
  rw[if_neg (by omega),if_pos hg]; rfl
 exact⟨a,h2,rfl,h3,h4⟩
theorem place{l:List Zb}{id:Int}{k:Nat}(hk:k<=l.length)(h1:∀ m (hm:m<l.length),m<k->l[m].id<id)(h2:∀ m (hm:m<l.length),k<=m->id<l[m].id):
  l.filter (fun q=>decide (q.id<id))=l.take k/\l.filter (fun q=>decide (id<q.id))=l.drop k:=by
 have hT:∀ q ∈ l.take k,q.id<id:=fun q hq=>by
  obtain⟨m,hm,rfl⟩:=List.mem_iff_getElem.1 hq
  simp only[List.length_take] at hm
  rw[List.getElem_take]
  exact h1 m (by omega) (by omega)
 have hD:∀ q ∈ l.drop k,id<q.id:=fun q hq=>by
  obtain⟨m,hm,rfl⟩:=List.mem_iff_getElem.1 hq
  simp only[List.length_drop] at hm
  rw[List.getElem_drop]
  exact h2 (k+m) (by omega) (by omega)
 constructor
 .conv=>lhs; rw[<- List.take_append_drop k l]
  rw[List.filter_append,filter_all fun q hq=>decide_eq_true (hT q hq),filter_none fun q hq=>decide_eq_false (by have:=hD q hq; omega),List.append_nil]
 conv=>lhs; rw[<- List.take_append_drop k l]
 rw[List.filter_append,filter_none fun q hq=>decide_eq_false (by have:=hT q hq; omega),filter_all fun q hq=>decide_eq_true (hD q hq),List.nil_append]
end Go.EL

namespace Go.EL
open Go.IntKind (i8 i16 i32 i64 u8 u16 u32 u64)
open Go Go.RowKit
theorem ZmP{l:List Zb}(hl:l.length<=100)(hi:l.Pairwise fun a b=>a.id<b.id){id:Int}(hnew:∀ q ∈ l,q.id≠id):
  ∃ k:Nat,k<=l.length/\(Zn l id).Ret ((k:Int),false)/\l.filter (fun q=>decide (q.id<id))=l.take k/\l.filter (fun q=>decide (id<q.id))=l.drop k:=by
 have hs:=ZmQ hl hi hnew
 have huniq:∀ r:Int×Bool,(∃ k:Nat,k<=l.length/\r=((k:Int),false)/\(∀ m (hm:m<l.length),m<k->l[m].id<id)/\∀ m (hm:m<l.length),k<=m->id<l[m].id)->r=(((l.filter fun q:Zb=>decide (q.id<id)).length:Int),false):=by
  rintro r ⟨k,h1,rfl,h2,h3⟩
  have:=(place h1 h2 h3).1
  rw[this,List.length_take,Nat.min_eq_left h1]
 have hret:=(Zn l id).mono huniq hs
 refine⟨_,List.length_filter_le (fun q:Zb=>decide (q.id<id)) l,hret,?_⟩
 have hpw:=List.pairwise_iff_getElem.1 hi
 have key:∀ (l:List Zb),l.Pairwise (fun a b=>a.id<b.id)->(∀ q ∈ l,q.id≠id)->l.filter (fun q=>decide (q.id<id))=l.take (l.filter fun q:Zb=>decide (q.id<id)).length/\l.filter (fun q=>decide (id<q.id))=l.drop (l.filter fun q:Zb=>decide (q.id<id)).length:=by
  intro l
  induction l with
  | nil=>intro _ _; exact⟨rfl,rfl⟩
  | cons x xs ih=>
   intro hp hn
   obtain⟨p1,p2⟩:=List.pairwise_cons.1 hp
   obtain⟨i1,i2⟩:=ih p2 fun q hq=>hn q (by simp[hq])
   have hx:=hn x (by simp)
   by_cases hlt:x.id<id
   .rw[List.filter_cons,if_pos (decide_eq_true hlt),List.filter_cons,if_neg (by simp; omega)]
    rw[List.length_cons,List.take_succ_cons,List.drop_succ_cons]
    exact⟨congrArg (x::·) i1,i2⟩
   have h0:(x::xs).filter (fun q=>decide (q.id<id))=[]:=filter_none fun q hq=>decide_eq_false (by
    rcases List.mem_cons.1 hq with rfl|hq
    .exact hlt
    have:=p1 q hq; omega)
   have h1:(x::xs).filter (fun q=>decide (id<q.id))=x::xs:=filter_all fun q hq=>decide_eq_true (by
    rcases List.mem_cons.1 hq with rfl|hq
    .omega
    have:=p1 q hq; omega)
   rw[h0,h1]
   exact⟨rfl,rfl⟩
 exact key l hi hnew
theorem Zie{l:List Zb}(hl:l.length<=100)(hi:l.Pairwise fun a b=>a.id<b.id){q:Zb}(hnew:∀ p ∈ l,p.id≠q.id):
  ∃ k:Int×Bool,(Zn l q.id).Ret k/\(ZU l k.1 [q]).Ret (putL l q):=by
 obtain⟨k,h1,h2,h3,h4⟩:=ZmP hl hi hnew
 refine⟨_,h2,⟨⟨by omega,by omega⟩,rfl,by omega⟩,?_⟩
 show _=_
 unfold putL
 rw[h3,h4]
 simp
def insS(s:Za)(q:Zb)(neq:Bool):Za:=if neq=true then ⟨s.vars,s.eqs,putL s.neqs q,s.next⟩ else ⟨s.vars,putL s.eqs q,s.neqs,s.next⟩
theorem Zi5{s:Za}{q:Zb}{neq:Bool}(hl:(if neq=true then s.neqs else s.eqs).length<=100)(hi:(if neq=true then s.neqs else s.eqs).Pairwise fun a b=>a.id<b.id)(hnew:∀ p ∈ (if neq=true then s.neqs else s.eqs),p.id≠q.id):(Zdz s q neq).Ret (insS s q neq):=by
 cases neq with
 | true=>
  obtain⟨k,h1,h2⟩:=Zie hl hi hnew
  exact⟨s.neqs,rfl,s.neqs,Zd4 hl,k,h1,putL s.neqs q,h2,rfl⟩
 | false=>
  obtain⟨k,h1,h2⟩:=Zie hl hi hnew
  exact⟨s.eqs,rfl,s.eqs,Zd4 hl,k,h1,putL s.eqs q,h2,rfl⟩
end Go.EL

namespace Go.EL
open Go.IntKind (i8 i16 i32 i64 u8 u16 u32 u64)
open Go Go.RowKit
theorem Zab{l:List Zb}{id:Int}{q:Zb}(h:findQ l id=some q):q ∈ l/\q.id=id:=by
 unfold findQ at h
 exact⟨List.mem_of_find?_eq_some h,by have:=List.find?_some h; simpa using this⟩
theorem Zeb{l:List Zb}{id:Int}(h:findQ l id=none):∀ q ∈ l,q.id≠id:=fun q hq e=>by
 unfold findQ at h
 have:=List.find?_eq_none.1 h q hq
 simp at this; exact this e
theorem Za9(s:Za)(id:Int):hasB s id=true↔(∃ q ∈ s.eqs,q.id=id)\/∃ q ∈ s.neqs,q.id=id:=by
 unfold hasB
 rw[ZcS,ZcS,Bool.or_eq_true,Option.isSome_iff_exists,Option.isSome_iff_exists]
 constructor
 .rintro (⟨q,h⟩|⟨q,h⟩)
  .exact .inl ⟨q,Zab h⟩
  exact .inr ⟨q,Zab h⟩
 rintro (⟨q,h1,h2⟩|⟨q,h1,h2⟩)
 .cases h:findQ s.eqs id with
  | some q=>exact .inl ⟨q,rfl⟩
  | none=>exact absurd h2 (Zeb h q h1)
 cases h:findQ s.neqs id with
 | some q=>exact .inr ⟨q,rfl⟩
 | none=>exact absurd h2 (Zeb h q h1)
theorem Zle{s:Za}(h:Good s){id:Int}(hid:id<=0):hasB s id=false:=by
 cases hb:hasB s id with
 | false=>rfl
 | true=>
  rcases (Za9 s id).1 hb with ⟨q,h1,h2⟩|⟨q,h1,h2⟩
  .have:=h.eqs.ids q h1; omega
  have:=h.neqs.ids q h1; omega
theorem ZoE{s:Za}(h:Good s){id:Int}(hid:s.next<=id):hasB s id=false:=by
 cases hb:hasB s id with
 | false=>rfl
 | true=>
  rcases (Za9 s id).1 hb with ⟨q,h1,h2⟩|⟨q,h1,h2⟩
  .have:=h.eqs.ids q h1; omega
  have:=h.neqs.ids q h1; omega
def numE(s:Za)(e:Zc):Int:=if e.id=0 then s.next else e.id
def addE(s:Za)(e:Zc):Za:=
 ⟨s.vars,if e.neq=true then s.eqs else putL s.eqs ⟨numE s e,e.p⟩,if e.neq=true then putL s.neqs ⟨numE s e,e.p⟩ else s.neqs,if s.next<numE s e+1 then numE s e+1 else s.next⟩
theorem check5{s:Za}{e:Zc}(hk:e.kind=5)(hc:checkF s e=0):0<=e.id/\e.id<=999999/\(0<e.id->hasB s e.id=false)/\(e.neq=false->s.eqs.length<12)/\(e.neq=true->s.neqs.length<12)/\(e.id=0->s.next<1000000)/\fitB e.p (s.vars.length:Int)=true:=by
 unfold checkF at hc
 rw[if_neg (by omega),if_neg (by omega),if_neg (by omega),if_neg (by omega),if_pos hk] at hc
 unfold addC at hc
 by_cases c1:e.id<0\/999999<e.id\/(0<e.id/\hasB s e.id=true)
 .rw[if_pos c1] at hc; exact absurd hc (by decide)
 rw[if_neg c1] at hc
 by_cases c2:(e.neq=false/\12<=s.eqs.length)\/(e.neq=true/\12<=s.neqs.length)\/(e.id=0/\1000000<=s.next)
 .rw[if_pos c2] at hc; exact absurd hc (by decide)
 rw[if_neg c2] at hc
 by_cases c3:fitB e.p (s.vars.length:Int)=true
 .refine⟨Int.not_lt.1 fun h=>c1 (.inl h),Int.not_lt.1 fun h=>c1 (.inr (.inl h)),fun h=>?_,fun h=>Nat.not_le.1 fun h2=>c2 (.inl ⟨h,h2⟩),fun h=>Nat.not_le.1 fun h2=>c2 (.inr (.inl ⟨h,h2⟩)),fun h=>Int.not_le.1 fun h2=>c2 (.inr (.inr ⟨h,h2⟩)),c3⟩
  cases hb:hasB s e.id with
  | false=>rfl
  | true=>exact absurd (.inr (.inr ⟨h,hb⟩)) c1
 rw[if_neg c3] at hc; exact absurd hc (by decide)
theorem ZjM{s:Za}(h:Good s){e:Zc}(h0:0<=e.id)(h1:0<e.id->hasB s e.id=false):hasB s (numE s e)=false:=by
 unfold numE
 by_cases hz:e.id=0
 .rw[if_pos hz]; exact ZoE h (Int.le_refl _)
 rw[if_neg hz]; exact h1 (by omega)
theorem Zpa{s:Za}(h:Good s){e:Zc}(hp:PolOk e.p)(hk:e.kind=5):(Ziy s e).Ret (if checkF s e=0 then (addE s e,0) else (zeroS,checkF s e)):=by
 have he:=h.eqs.len
 have hn:=h.neqs.len
 have h1:(Zax e s).Ret (decide (0<=e.id/\e.id<1000000/\hasB s e.id=false)):=by
  unfold Zax
  by_cases c1:0<=e.id
  .rw[if_pos c1]
   by_cases c2:e.id<1000000
   .rw[if_pos c2]
    refine⟨_,rfl,_,ZdB h e.id,?_⟩
    show (!hasB s e.id)=_
    cases hb:hasB s e.id with
    | false=>rw[decide_eq_true ⟨c1,c2,rfl⟩]; rfl
    | true=>rw[decide_eq_false (fun k=>absurd k.2.2 (by decide))]; rfl
   rw[if_neg c2]
   exact (decide_eq_false fun k=>c2 k.2.1).symm
  rw[if_neg c1]
  exact (decide_eq_false fun k=>c1 k.1).symm
 have h2:(ZaO s e).Ret (decide ((if e.neq=true then s.neqs else s.eqs).length<12/\(e.id=0->s.next<1000000))):=by
  refine⟨if e.neq=true then s.neqs else s.eqs,?_,?_⟩
  .unfold Zcw
   cases e.neq <;> rfl
  rw[Cq.Zd]
  by_cases c1:(if e.neq=true then s.neqs else s.eqs).length<12
  .rw[if_pos (by omega),Cq.Zd]
   by_cases c2:e.id=0
   .rw[if_pos c2]
    exact decide_eq_decide.2 ⟨fun k=>⟨c1,fun _=>by omega⟩,fun k=>by have:=k.2 c2; omega⟩
   rw[if_neg c2]
   exact (decide_eq_true ⟨c1,fun k=>absurd k c2⟩).symm
  rw[if_neg (by omega)]
  exact (decide_eq_false fun k=>c1 k.1).symm
 have hfirst:(ZA [fun _=>Zo (fun _=>Zax e s) 332,fun _=>Zo (fun _=>ZaO s e) 2,fun _=>Zo (fun _=>Zao e.p s) 320]).Ret (checkF s e):=by
  have hh:=first3 (a:=fun _=>Zo (fun _=>Zax e s) 332) (b:=fun _=>Zo (fun _=>ZaO s e) 2) (c:=fun _=>Zo (fun _=>Zao e.p s) 320) (ZM h1 332) (fun _=>ZM h2 2) (fun _ _=>ZM (Zlb (s:=s) hp) 320)
  have e1:checkF s e=addC s e:=by
   unfold checkF
   rw[if_neg (by omega),if_neg (by omega),if_neg (by omega),if_neg (by omega),if_pos hk]
  rw[e1]
  refine Eq.mp (congrArg _ ?_) hh
  unfold addC
  by_cases c1:0<=e.id/\e.id<1000000/\hasB s e.id=false
  .rw[decide_eq_true c1,if_neg (show ¬ (e.id<0\/999999<e.id\/(0<e.id/\hasB s e.id=true)) from fun k=>by
    rcases k with k|k|k
    .omega
    .omega
    rw[c1.2.2] at k; exact absurd k.2 (by decide))]
   by_cases c2:(if e.neq=true then s.neqs else s.eqs).length<12/\(e.id=0->s.next<1000000)
   .rw[decide_eq_true c2,if_neg (show ¬ ((e.neq=false/\12<=s.eqs.length)\/(e.neq=true/\12<=s.neqs.length)\/(e.id=0/\1000000<=s.next)) from fun k=>by
     rcases k with k|k|k
     .have:=c2.1; rw[k.1,if_neg (by decide)] at this; omega
     .have:=c2.1; rw[if_pos k.1] at this; omega
     have:=c2.2 k.1; omega)]
    rfl
   rw[decide_eq_false c2,if_pos (show (e.neq=false/\12<=s.eqs.length)\/(e.neq=true/\12<=s.neqs.length)\/(e.id=0/\1000000<=s.next) from by
    by_cases k:(if e.neq=true then s.neqs else s.eqs).length<12
    .refine .inr (.inr ?_)
     by_cases kz:e.id=0
     .exact⟨kz,Int.not_lt.1 fun kk=>c2 ⟨k,fun _=>kk⟩⟩
     exact absurd ⟨k,fun z=>absurd z kz⟩ c2
    cases hb:e.neq with
    | false=>rw[hb,if_neg (by decide)] at k; exact .inl ⟨rfl,by omega⟩
    | true=>rw[hb,if_pos rfl] at k; exact .inr (.inl ⟨rfl,by omega⟩))]
   rfl
  rw[decide_eq_false c1,if_pos (show e.id<0\/999999<e.id\/(0<e.id/\hasB s e.id=true) from by
   by_cases k1:e.id<0
   .exact .inl k1
   by_cases k2:999999<e.id
   .exact .inr (.inl k2)
   refine .inr (.inr ?_)
   cases hb:hasB s e.id with
   | false=>exact absurd ⟨by omega,by omega,hb⟩ c1
   | true=>exact⟨Int.not_le.1 fun k=>(by rw[Zle h k] at hb; cases hb),rfl⟩)]
  rfl
 refine⟨_,rfl,_,rfl,_,rfl,_,rfl,_,hfirst,?_⟩
 by_cases hc:checkF s e=0
 .obtain⟨k1,k2,k3,k4,k5,k6,k7⟩:=check5 hk hc
  have hnew:=ZjM h k1 k3
  rw[if_pos hc,Cq.Zd,if_neg (fun hh=>hh hc)]
  refine⟨numE s e,?_,?_⟩
  .unfold Zb5 numE
   by_cases hz:e.id=0
   .rw[if_pos hz,if_pos hz]; rfl
   rw[if_neg hz,if_neg hz]; rfl
  have hno:∀ q ∈ (if e.neq=true then s.neqs else s.eqs),q.id≠numE s e:=fun q hq e'=>by
   have:hasB s (numE s e)=true:=(Za9 s _).2 (by
    cases hb:e.neq with
    | false=>rw[hb,if_neg (by decide)] at hq; exact .inl ⟨q,hq,e'⟩
    | true=>rw[hb,if_pos rfl] at hq; exact .inr ⟨q,hq,e'⟩)
   rw[hnew] at this; cases this
  have hb:numE s e<1000000/\0<=numE s e:=by
   have:=h.next
   unfold numE
   split
   .rename_i hz; have:=k6 hz; omega
   omega
  have hlen:(if e.neq=true then s.neqs else s.eqs).length<=100:=by split <;> omega
  have hinc:(if e.neq=true then s.neqs else s.eqs).Pairwise fun a b=>a.id<b.id:=by
   split
   .exact h.neqs.inc
   exact h.eqs.inc
  refine⟨insS s ⟨numE s e,e.p⟩ e.neq,Zi5 hlen hinc hno,?_⟩
  show _=_
  rw[wrap64 (by omega)]
  unfold addE insS
  cases e.neq <;> rfl
 rw[if_neg hc,Cq.Zd,if_pos hc]
 rfl
end Go.EL

namespace Go.EL
open Go.IntKind (i8 i16 i32 i64 u8 u16 u32 u64)
open Go Go.RowKit
theorem first1{a:Unit->Cq Int}{x:Int}(ha:(a ()).Ret x):(ZA [a]).Ret x:=by
 by_cases hx:x=0
 .subst hx
  refine ZiC (by simp) fun j hj=>?_
  match j,hj with
  | 0,_=>exact ha
 exact Zcx (k:=0) (by simp) (by simp) (fun j hj hj2=>by omega) ha hx
def dropE(s:Za)(id:Int):Za:=⟨s.vars,dropL s.eqs id,dropL s.neqs id,s.next⟩
def setL(id:Int)(p:List Ze)(l:List Zb):List Zb:=l.map fun q=>if q.id=id then ⟨q.id,p⟩ else q
def setE(s:Za)(e:Zc):Za:=⟨s.vars,setL e.id e.p s.eqs,setL e.id e.p s.neqs,s.next⟩
def flipE(s:Za)(id:Int):Za:=insS (dropE s id) (findE s id).1 (!(findE s id).2.1)
theorem Zik{s:Za}(h:Good s)(id:Int):(ZcQ s id).Ret (dropE s id):=by
 have he:=h.eqs.len
 have hn:=h.neqs.len
 exact⟨_,Zd4 (by omega),_,ZfN (by omega) id,_,Zd4 (by omega),_,ZfN (by omega) id,rfl⟩
theorem check678{s:Za}{e:Zc}(hk:e.kind=6\/e.kind=7\/e.kind=8):checkF s e=idC s e:=by
 unfold checkF
 rw[if_neg (by omega),if_neg (by omega),if_neg (by omega),if_neg (by omega),if_neg (by omega),if_pos hk]
theorem ZkC{s:Za}(h:Good s){e:Zc}(hk:e.kind=6):(Zhd s e).Ret (if checkF s e=0 then (dropE s e.id,0) else (zeroS,checkF s e)):=by
 have hfirst:(ZA [fun _=>Zo (fun _=>ZV s e.id) 332]).Ret (checkF s e):=by
  have e1:checkF s e=(if hasB s e.id=true then (0:Int) else 332):=by
   rw[check678 (.inl hk)]
   unfold idC
   cases hb:hasB s e.id with
   | false=>rfl
   | true=>rw[if_neg (show ¬ (true=false) by decide),if_neg (show ¬ (e.kind=7/\_) from fun k=>by omega),if_neg (show ¬ (e.kind=8/\_) from fun k=>by omega)]; rfl
  rw[e1]
  exact first1 (ZM (ZdB h e.id) 332)
 refine⟨_,rfl,_,rfl,_,hfirst,?_⟩
 by_cases hc:checkF s e=0
 .rw[if_pos hc,Cq.Zd,if_neg (fun hh=>hh hc)]
  exact⟨_,Zik h e.id,rfl⟩
 rw[if_neg hc,Cq.Zd,if_pos hc]
 rfl
theorem Zly{l:List Zb}(hl:l.length<=100)(e:Zc):(ZL l e).Ret (setL e.id e.p l):=by
 refine⟨⟨by omega,by omega⟩,?_⟩
 show (Cq.next _ _).wp _
 refine Cq.Zk l.length (fun k s=>s=(setL e.id e.p (l.take k)++List.replicate (l.length-k) (Zb.mk 0 []),(k:Int))) (fun k s hk hs=>?_) (fun s hs=>?_) (by simp[setL])
 .subst hs
  have hlen:(setL e.id e.p (l.take k)).length=k:=by simp[setL]; omega
  have hrep:List.replicate (l.length-k) (Zb.mk 0 [])=Zb.mk 0 []::List.replicate (l.length-(k+1)) (Zb.mk 0 []):=by
   rw[show l.length-k=(l.length-(k+1))+1 by omega,List.replicate_succ]
  refine Cq.wp.yes (p:=(k:Int)<(l.length:Int)) (by omega) ?_
  refine⟨l[k],idxN hk,if l[k].id=e.id then ⟨l[k].id,e.p⟩ else l[k],?_,Zb.mk 0 [],⟨by omega,?_⟩,?_⟩
  .unfold ZfC
   split <;> rfl
  .rw[Int.toNat_natCast,List.getElem?_append_right (by omega),hlen,Nat.sub_self,hrep]; rfl
  show _=_
  rw[wrapN (by omega),Int.toNat_natCast,List.set_append_right _ _ (by omega),hlen,Nat.sub_self,hrep,List.set_cons_zero]
  have e':setL e.id e.p (l.take (k+1))=setL e.id e.p (l.take k)++[if l[k].id=e.id then ⟨l[k].id,e.p⟩ else l[k]]:=by
   unfold setL
   rw[<- List.take_append_getElem hk,List.map_append]; rfl
  rw[e',List.append_assoc]; rfl
 subst hs
 show (if ((l.length:Nat):Int)<(l.length:Int) then _ else _:Cq _).wp _
 rw[Cq.Zd,if_neg (by omega),List.take_length,Nat.sub_self]
 show _=_
 simp
theorem ZlA{s:Za}(h:Good s){e:Zc}(hp:PolOk e.p)(hk:e.kind=7):(ZiA s e).Ret (if checkF s e=0 then (setE s e,0) else (zeroS,checkF s e)):=by
 have he:=h.eqs.len
 have hn:=h.neqs.len
 have hfirst:(ZA [fun _=>Zo (fun _=>ZV s e.id) 332,fun _=>Zo (fun _=>Zao e.p s) 320]).Ret (checkF s e):=by
  have e1:checkF s e=(if (if hasB s e.id=true then (0:Int) else 332)=0 then (if fitB e.p (s.vars.length:Int)=true then (0:Int) else 320) else (if hasB s e.id=true then (0:Int) else 332)):=by
   rw[check678 (.inr (.inl hk))]
   unfold idC
   cases hb:hasB s e.id with
   | false=>rfl
   | true=>
    rw[if_neg (show ¬ (true=false) by decide)]
    cases hf:fitB e.p (s.vars.length:Int) with
    | false=>rw[if_pos ⟨hk,rfl⟩]; rfl
    | true=>rw[if_neg (show ¬ (e.kind=7/\true=false) from fun k=>absurd k.2 (by decide)),if_neg (show ¬ (e.kind=8/\_) from fun k=>by omega)]; rfl
  rw[e1]
  exact first2 (ZM (ZdB h e.id) 332) (fun _=>ZM (Zlb hp) 320)
 refine⟨_,rfl,_,rfl,_,rfl,_,rfl,_,hfirst,?_⟩
 by_cases hc:checkF s e=0
 .rw[if_pos hc,Cq.Zd,if_neg (fun hh=>hh hc)]
  exact⟨_,Zly (by omega) e,_,Zly (by omega) e,rfl⟩
 rw[if_neg hc,Cq.Zd,if_pos hc]
 rfl
end Go.EL

namespace Go.EL
open Go.IntKind (i8 i16 i32 i64 u8 u16 u32 u64)
open Go Go.RowKit
theorem Zcv(l:List Zb)(id:Int):∀ q ∈ dropL l id,q.id≠id:=fun q hq=>by
 unfold dropL at hq
 simpa using (List.mem_filter.1 hq).2
theorem Zcu{l:List Zb}(h:l.Pairwise fun a b=>a.id<b.id)(id:Int):(dropL l id).Pairwise fun a b=>a.id<b.id:=h.filter _
theorem Zhc(l:List Zb)(id:Int):(dropL l id).length<=l.length:=List.length_filter_le _ _
theorem ZoA{s:Za}{id:Int}(h:hasB s id=true):(findE s id).1.id=id:=by
 rw[<- Zhi] at h
 unfold findE at h ⊢
 cases h1:findQ s.eqs id with
 | some q=>exact (Zab h1).2
 | none=>
  rw[h1] at h
  cases h2:findQ s.neqs id with
  | some q=>exact (Zab h2).2
  | none=>rw[h2] at h; cases h
theorem ZnI(s:Za)(id:Int)(h:hasB s id=true):(findE s id).2.1=decide (¬ 0<=findI s.eqs id):=by
 rw[<- Zhi] at h
 have h0:decide (0<=findI s.eqs id)=(findQ s.eqs id).isSome:=ZcS
 rw[decide_not,h0]
 unfold findE at h ⊢
 cases h1:findQ s.eqs id with
 | some q=>rfl
 | none=>
  rw[h1] at h
  cases h2:findQ s.neqs id with
  | some q=>rfl
  | none=>rw[h2] at h; cases h
theorem ZoB{s:Za}(h:Good s){e:Zc}(hk:e.kind=8):(Zhf s e).Ret (if checkF s e=0 then (flipE s e.id,0) else (zeroS,checkF s e)):=by
 have he:=h.eqs.len
 have hn:=h.neqs.len
 have h2:(ZaB s (findE s e.id).2.1).Ret (decide ((if (!(findE s e.id).2.1)=true then s.neqs else s.eqs).length<12)):=by
  refine⟨if (!(findE s e.id).2.1)=true then s.neqs else s.eqs,?_,?_⟩
  .unfold Zcw
   cases (findE s e.id).2.1 <;> rfl
  exact decide_eq_decide.2 ⟨fun k=>by omega,fun k=>by omega⟩
 have hfirst:(ZA [fun _=>Zo (fun _=>ZV s e.id) 332,fun _=>Zo (fun _=>ZaB s (findE s e.id).2.1) 2]).Ret (checkF s e):=by
  have hh:=first2 (a:=fun _=>Zo (fun _=>ZV s e.id) 332) (b:=fun _=>Zo (fun _=>ZaB s (findE s e.id).2.1) 2) (ZM (ZdB h e.id) 332) (fun _=>ZM h2 2)
  rw[check678 (.inr (.inr hk))]
  refine Eq.mp (congrArg _ ?_) hh
  unfold idC
  cases hb:hasB s e.id with
  | false=>rfl
  | true=>
   have hq:=ZnI s e.id hb
   rw[if_neg (show ¬ (true=false) by decide),if_neg (show ¬ (e.kind=7/\_) from fun k=>by omega),hq]
   by_cases hf:0<=findI s.eqs e.id
   .rw[decide_eq_false (show ¬ ¬ _ from fun k=>k hf)]
    by_cases hl:s.neqs.length<12
    .rw[if_neg (show ¬ (e.kind=8/\((0<=findI s.eqs e.id/\12<=s.neqs.length)\/(¬ 0<=findI s.eqs e.id/\12<=s.eqs.length))) from fun k=>by rcases k.2 with k|k; omega; exact k.1 hf)]
     simp[hl]
    rw[if_pos (show e.kind=8/\((0<=findI s.eqs e.id/\12<=s.neqs.length)\/(¬ 0<=findI s.eqs e.id/\12<=s.eqs.length)) from ⟨hk,.inl ⟨hf,by omega⟩⟩)]
    simp[hl]
   rw[decide_eq_true hf]
   by_cases hl:s.eqs.length<12
   .rw[if_neg (show ¬ (e.kind=8/\((0<=findI s.eqs e.id/\12<=s.neqs.length)\/(¬ 0<=findI s.eqs e.id/\12<=s.eqs.length))) from fun k=>by rcases k.2 with k|k; exact hf k.1; omega)]
    simp[hl]
   rw[if_pos (show e.kind=8/\((0<=findI s.eqs e.id/\12<=s.neqs.length)\/(¬ 0<=findI s.eqs e.id/\12<=s.eqs.length)) from ⟨hk,.inr ⟨hf,by omega⟩⟩)]
   simp[hl]
 refine⟨_,Zil h e.id,_,rfl,_,rfl,_,rfl,_,hfirst,?_⟩
 by_cases hc:checkF s e=0
 .have hb:hasB s e.id=true:=by
   rw[check678 (.inr (.inr hk))] at hc
   unfold idC at hc
   cases hb:hasB s e.id with
   | true=>rfl
   | false=>rw[hb,if_pos rfl] at hc; exact absurd hc (by decide)
  rw[if_pos hc,Cq.Zd,if_neg (fun hh=>hh hc)]
  refine⟨_,Zik h e.id,flipE s e.id,Zi5 ?_ ?_ ?_,rfl⟩
  .have h1:=Zhc s.eqs e.id
   have h2:=Zhc s.neqs e.id
   unfold dropE
   split <;> (simp only; omega)
  .unfold dropE
   split
   .exact Zcu h.neqs.inc _
   exact Zcu h.eqs.inc _
  rw[ZoA hb]
  unfold dropE
  split
  .exact Zcv _ _
  exact Zcv _ _
 rw[if_neg hc,Cq.Zd,if_pos hc]
 rfl
end Go.EL

