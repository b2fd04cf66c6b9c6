/- The law EditVariables holds for every input: a part of its proof (what the code does, plain models, and what they return). No condition. -/
import Derived.Test.YtenaadodnembpaaGreatRows
import Derived.Test.YtenaadodnembpaaGreatXV13b
import Derived.Test.YtenaadodnembpaaGreatXV13a
import Derived.Test.YtenaadodnembpaaGreatProg
set_option linter.unusedVariables false
set_option linter.unusedSimpArgs false
namespace Go.Proofs.YtenaadodnembpaaGreat
open Go Go.EL Go.RowKit Go.Proofs
theorem ownK:ownKnob Tryz.prog.godebug=none:=by kernel_rfl
theorem laidK:laidOutB Tryz.prog=true:=by kernel_rfl
end Go.Proofs.YtenaadodnembpaaGreat

namespace Go.Proofs.YtenaadodnembpaaGreat
open Go Go.EL Go.RowKit Go.Proofs
theorem mix:Tryz.prog.follows .mixedOrders=true:=by kernel_rfl
theorem E10:Enters Tryz.prog 10:=enters_of Tryz.func10 (by kernel_rfl) rfl
theorem E11:Enters Tryz.prog 11:=enters_of Tryz.func11 (by kernel_rfl) rfl
theorem E14:Enters Tryz.prog 14:=enters_of Tryz.func14 (by kernel_rfl) rfl
theorem E15:Enters Tryz.prog 15:=enters_of Tryz.func15 (by kernel_rfl) rfl
theorem E16:Enters Tryz.prog 16:=enters_of Tryz.func16 (by kernel_rfl) rfl
theorem E19:Enters Tryz.prog 19:=enters_of Tryz.func19 (by kernel_rfl) rfl
theorem E20:Enters Tryz.prog 20:=enters_of Tryz.func20 (by kernel_rfl) rfl
theorem E22:Enters Tryz.prog 22:=enters_of Tryz.func22 (by kernel_rfl) rfl
theorem E24:Enters Tryz.prog 24:=enters_of Tryz.func24 (by kernel_rfl) rfl
theorem E25:Enters Tryz.prog 25:=enters_of Tryz.func25 (by kernel_rfl) rfl
theorem E26:Enters Tryz.prog 26:=enters_of Tryz.func26 (by kernel_rfl) rfl
theorem E28:Enters Tryz.prog 28:=enters_of Tryz.func28 (by kernel_rfl) rfl
theorem E29:Enters Tryz.prog 29:=enters_of Tryz.func29 (by kernel_rfl) rfl
theorem E30:Enters Tryz.prog 30:=enters_of Tryz.func30 (by kernel_rfl) rfl
theorem E31:Enters Tryz.prog 31:=enters_of Tryz.func31 (by kernel_rfl) rfl
theorem E32:Enters Tryz.prog 32:=enters_of Tryz.func32 (by kernel_rfl) rfl
theorem E33:Enters Tryz.prog 33:=enters_of Tryz.func33 (by kernel_rfl) rfl
theorem E34:Enters Tryz.prog 34:=enters_of Tryz.func34 (by kernel_rfl) rfl
theorem E35:Enters Tryz.prog 35:=enters_of Tryz.func35 (by kernel_rfl) rfl
theorem E36:Enters Tryz.prog 36:=enters_of Tryz.func36 (by kernel_rfl) rfl
theorem E37:Enters Tryz.prog 37:=enters_of Tryz.func37 (by kernel_rfl) rfl
theorem E38:Enters Tryz.prog 38:=enters_of Tryz.func38 (by kernel_rfl) rfl
theorem E39:Enters Tryz.prog 39:=enters_of Tryz.func39 (by kernel_rfl) rfl
theorem E40:Enters Tryz.prog 40:=enters_of Tryz.func40 (by kernel_rfl) rfl
theorem E41:Enters Tryz.prog 41:=enters_of Tryz.func41 (by kernel_rfl) rfl
theorem E42:Enters Tryz.prog 42:=enters_of Tryz.func42 (by kernel_rfl) rfl
theorem E43:Enters Tryz.prog 43:=enters_of Tryz.func43 (by kernel_rfl) rfl
theorem E45:Enters Tryz.prog 45:=enters_of Tryz.func45 (by kernel_rfl) rfl
theorem E46:Enters Tryz.prog 46:=enters_of Tryz.func46 (by kernel_rfl) rfl
theorem E47:Enters Tryz.prog 47:=enters_of Tryz.func47 (by kernel_rfl) rfl
theorem E48:Enters Tryz.prog 48:=enters_of Tryz.func48 (by kernel_rfl) rfl
theorem E49:Enters Tryz.prog 49:=enters_of Tryz.func49 (by kernel_rfl) rfl
theorem E50:Enters Tryz.prog 50:=enters_of Tryz.func50 (by kernel_rfl) rfl
theorem E51:Enters Tryz.prog 51:=enters_of Tryz.func51 (by kernel_rfl) rfl
theorem E52:Enters Tryz.prog 52:=enters_of Tryz.func52 (by kernel_rfl) rfl
theorem E53:Enters Tryz.prog 53:=enters_of Tryz.func53 (by kernel_rfl) rfl
theorem E54:Enters Tryz.prog 54:=enters_of Tryz.func54 (by kernel_rfl) rfl
theorem E55:Enters Tryz.prog 55:=enters_of Tryz.func55 (by kernel_rfl) rfl
theorem E56:Enters Tryz.prog 56:=enters_of Tryz.func56 (by kernel_rfl) rfl
theorem E57:Enters Tryz.prog 57:=enters_of Tryz.func57 (by kernel_rfl) rfl
theorem E58:Enters Tryz.prog 58:=enters_of Tryz.func58 (by kernel_rfl) rfl
theorem E59:Enters Tryz.prog 59:=enters_of Tryz.func59 (by kernel_rfl) rfl
theorem E60:Enters Tryz.prog 60:=enters_of Tryz.func60 (by kernel_rfl) rfl
theorem E61:Enters Tryz.prog 61:=enters_of Tryz.func61 (by kernel_rfl) rfl
theorem E62:Enters Tryz.prog 62:=enters_of Tryz.func62 (by kernel_rfl) rfl
theorem E63:Enters Tryz.prog 63:=enters_of Tryz.func63 (by kernel_rfl) rfl
theorem E64:Enters Tryz.prog 64:=enters_of Tryz.func64 (by kernel_rfl) rfl
theorem E65:Enters Tryz.prog 65:=enters_of Tryz.func65 (by kernel_rfl) rfl
theorem E66:Enters Tryz.prog 66:=enters_of Tryz.func66 (by kernel_rfl) rfl
theorem E67:Enters Tryz.prog 67:=enters_of Tryz.func67 (by kernel_rfl) rfl
theorem E68:Enters Tryz.prog 68:=enters_of Tryz.func68 (by kernel_rfl) rfl
theorem E69:Enters Tryz.prog 69:=enters_of Tryz.func69 (by kernel_rfl) rfl
theorem E70:Enters Tryz.prog 70:=enters_of Tryz.func70 (by kernel_rfl) rfl
theorem E71:Enters Tryz.prog 71:=enters_of Tryz.func71 (by kernel_rfl) rfl
theorem E72:Enters Tryz.prog 72:=enters_of Tryz.func72 (by kernel_rfl) rfl
theorem E73:Enters Tryz.prog 73:=enters_of Tryz.func73 (by kernel_rfl) rfl
theorem E74:Enters Tryz.prog 74:=enters_of Tryz.func74 (by kernel_rfl) rfl
theorem E75:Enters Tryz.prog 75:=enters_of Tryz.func75 (by kernel_rfl) rfl
theorem E76:Enters Tryz.prog 76:=enters_of Tryz.func76 (by kernel_rfl) rfl
theorem E77:Enters Tryz.prog 77:=enters_of Tryz.func77 (by kernel_rfl) rfl
theorem E78:Enters Tryz.prog 78:=enters_of Tryz.func78 (by kernel_rfl) rfl
theorem E79:Enters Tryz.prog 79:=enters_of Tryz.func79 (by kernel_rfl) rfl
theorem E80:Enters Tryz.prog 80:=enters_of Tryz.func80 (by kernel_rfl) rfl
theorem E81:Enters Tryz.prog 81:=enters_of Tryz.func81 (by kernel_rfl) rfl
theorem E82:Enters Tryz.prog 82:=enters_of Tryz.func82 (by kernel_rfl) rfl
theorem E83:Enters Tryz.prog 83:=enters_of Tryz.func83 (by kernel_rfl) rfl
theorem E84:Enters Tryz.prog 84:=enters_of Tryz.func84 (by kernel_rfl) rfl
theorem E85:Enters Tryz.prog 85:=enters_of Tryz.func85 (by kernel_rfl) rfl
theorem E86:Enters Tryz.prog 86:=enters_of Tryz.func86 (by kernel_rfl) rfl
theorem E87:Enters Tryz.prog 87:=enters_of Tryz.func87 (by kernel_rfl) rfl
theorem E88:Enters Tryz.prog 88:=enters_of Tryz.func88 (by kernel_rfl) rfl
theorem E89:Enters Tryz.prog 89:=enters_of Tryz.func89 (by kernel_rfl) rfl
theorem E90:Enters Tryz.prog 90:=enters_of Tryz.func90 (by kernel_rfl) rfl
theorem E91:Enters Tryz.prog 91:=enters_of Tryz.func91 (by kernel_rfl) rfl
theorem E92:Enters Tryz.prog 92:=enters_of Tryz.func92 (by kernel_rfl) rfl
theorem E93:Enters Tryz.prog 93:=enters_of Tryz.func93 (by kernel_rfl) rfl
theorem E94:Enters Tryz.prog 94:=enters_of Tryz.func94 (by kernel_rfl) rfl
theorem E95:Enters Tryz.prog 95:=enters_of Tryz.func95 (by kernel_rfl) rfl
theorem E96:Enters Tryz.prog 96:=enters_of Tryz.func96 (by kernel_rfl) rfl
theorem E97:Enters Tryz.prog 97:=enters_of Tryz.func97 (by kernel_rfl) rfl
theorem E98:Enters Tryz.prog 98:=enters_of Tryz.func98 (by kernel_rfl) rfl
theorem E99:Enters Tryz.prog 99:=enters_of Tryz.func99 (by kernel_rfl) rfl
theorem E100:Enters Tryz.prog 100:=enters_of Tryz.func100 (by kernel_rfl) rfl
theorem E101:Enters Tryz.prog 101:=enters_of Tryz.func101 (by kernel_rfl) rfl
theorem E102:Enters Tryz.prog 102:=enters_of Tryz.func102 (by kernel_rfl) rfl
theorem E103:Enters Tryz.prog 103:=enters_of Tryz.func103 (by kernel_rfl) rfl
theorem E104:Enters Tryz.prog 104:=enters_of Tryz.func104 (by kernel_rfl) rfl
theorem E105:Enters Tryz.prog 105:=enters_of Tryz.func105 (by kernel_rfl) rfl
theorem E106:Enters Tryz.prog 106:=enters_of Tryz.func106 (by kernel_rfl) rfl
theorem E107:Enters Tryz.prog 107:=enters_of Tryz.func107 (by kernel_rfl) rfl
theorem E108:Enters Tryz.prog 108:=enters_of Tryz.func108 (by kernel_rfl) rfl
theorem E109:Enters Tryz.prog 109:=enters_of Tryz.func109 (by kernel_rfl) rfl
theorem E110:Enters Tryz.prog 110:=enters_of Tryz.func110 (by kernel_rfl) rfl
theorem E111:Enters Tryz.prog 111:=enters_of Tryz.func111 (by kernel_rfl) rfl
theorem E112:Enters Tryz.prog 112:=enters_of Tryz.func112 (by kernel_rfl) rfl
theorem E113:Enters Tryz.prog 113:=enters_of Tryz.func113 (by kernel_rfl) rfl
theorem E114:Enters Tryz.prog 114:=enters_of Tryz.func114 (by kernel_rfl) rfl
theorem E115:Enters Tryz.prog 115:=enters_of Tryz.func115 (by kernel_rfl) rfl
theorem E116:Enters Tryz.prog 116:=enters_of Tryz.func116 (by kernel_rfl) rfl
theorem E117:Enters Tryz.prog 117:=enters_of Tryz.func117 (by kernel_rfl) rfl
theorem E118:Enters Tryz.prog 118:=enters_of Tryz.func118 (by kernel_rfl) rfl
theorem E119:Enters Tryz.prog 119:=enters_of Tryz.func119 (by kernel_rfl) rfl
theorem E120:Enters Tryz.prog 120:=enters_of Tryz.func120 (by kernel_rfl) rfl
theorem E121:Enters Tryz.prog 121:=enters_of Tryz.func121 (by kernel_rfl) rfl
theorem E122:Enters Tryz.prog 122:=enters_of Tryz.func122 (by kernel_rfl) rfl
theorem E123:Enters Tryz.prog 123:=enters_of Tryz.func123 (by kernel_rfl) rfl
theorem E124:Enters Tryz.prog 124:=enters_of Tryz.func124 (by kernel_rfl) rfl
theorem E125:Enters Tryz.prog 125:=enters_of Tryz.func125 (by kernel_rfl) rfl
theorem E126:Enters Tryz.prog 126:=enters_of Tryz.func126 (by kernel_rfl) rfl
theorem E127:Enters Tryz.prog 127:=enters_of Tryz.func127 (by kernel_rfl) rfl
theorem E128:Enters Tryz.prog 128:=enters_of Tryz.func128 (by kernel_rfl) rfl
theorem E129:Enters Tryz.prog 129:=enters_of Tryz.func129 (by kernel_rfl) rfl
theorem E130:Enters Tryz.prog 130:=enters_of Tryz.func130 (by kernel_rfl) rfl
theorem E131:Enters Tryz.prog 131:=enters_of Tryz.func131 (by kernel_rfl) rfl
theorem E132:Enters Tryz.prog 132:=enters_of Tryz.func132 (by kernel_rfl) rfl
theorem E133:Enters Tryz.prog 133:=enters_of Tryz.func133 (by kernel_rfl) rfl
theorem E134:Enters Tryz.prog 134:=enters_of Tryz.func134 (by kernel_rfl) rfl
theorem E135:Enters Tryz.prog 135:=enters_of Tryz.func135 (by kernel_rfl) rfl
theorem E136:Enters Tryz.prog 136:=enters_of Tryz.func136 (by kernel_rfl) rfl
theorem E137:Enters Tryz.prog 137:=enters_of Tryz.func137 (by kernel_rfl) rfl
theorem E138:Enters Tryz.prog 138:=enters_of Tryz.func138 (by kernel_rfl) rfl
theorem E139:Enters Tryz.prog 139:=enters_of Tryz.func139 (by kernel_rfl) rfl
theorem E140:Enters Tryz.prog 140:=enters_of Tryz.func140 (by kernel_rfl) rfl
theorem E141:Enters Tryz.prog 141:=enters_of Tryz.func141 (by kernel_rfl) rfl
theorem E142:Enters Tryz.prog 142:=enters_of Tryz.func142 (by kernel_rfl) rfl
theorem E145:Enters Tryz.prog 145:=enters_of Tryz.func145 (by kernel_rfl) rfl
theorem E146:Enters Tryz.prog 146:=enters_of Tryz.func146 (by kernel_rfl) rfl
theorem E147:Enters Tryz.prog 147:=enters_of Tryz.func147 (by kernel_rfl) rfl
theorem E148:Enters Tryz.prog 148:=enters_of Tryz.func148 (by kernel_rfl) rfl
theorem E149:Enters Tryz.prog 149:=enters_of Tryz.func149 (by kernel_rfl) rfl
theorem E150:Enters Tryz.prog 150:=enters_of Tryz.func150 (by kernel_rfl) rfl
theorem E151:Enters Tryz.prog 151:=enters_of Tryz.func151 (by kernel_rfl) rfl
theorem E152:Enters Tryz.prog 152:=enters_of Tryz.func152 (by kernel_rfl) rfl
theorem E153:Enters Tryz.prog 153:=enters_of Tryz.func153 (by kernel_rfl) rfl
theorem E154:Enters Tryz.prog 154:=enters_of Tryz.func154 (by kernel_rfl) rfl
theorem E155:Enters Tryz.prog 155:=enters_of Tryz.func155 (by kernel_rfl) rfl
theorem E156:Enters Tryz.prog 156:=enters_of Tryz.func156 (by kernel_rfl) rfl
theorem E157:Enters Tryz.prog 157:=enters_of Tryz.func157 (by kernel_rfl) rfl
theorem E158:Enters Tryz.prog 158:=enters_of Tryz.func158 (by kernel_rfl) rfl
theorem E159:Enters Tryz.prog 159:=enters_of Tryz.func159 (by kernel_rfl) rfl
theorem E160:Enters Tryz.prog 160:=enters_of Tryz.func160 (by kernel_rfl) rfl
theorem E161:Enters Tryz.prog 161:=enters_of Tryz.func161 (by kernel_rfl) rfl
theorem E162:Enters Tryz.prog 162:=enters_of Tryz.func162 (by kernel_rfl) rfl
theorem E164:Enters Tryz.prog 164:=enters_of Tryz.func164 (by kernel_rfl) rfl
theorem E165:Enters Tryz.prog 165:=enters_of Tryz.func165 (by kernel_rfl) rfl
theorem E166:Enters Tryz.prog 166:=enters_of Tryz.func166 (by kernel_rfl) rfl
theorem E167:Enters Tryz.prog 167:=enters_of Tryz.func167 (by kernel_rfl) rfl
theorem E168:Enters Tryz.prog 168:=enters_of Tryz.func168 (by kernel_rfl) rfl
theorem E169:Enters Tryz.prog 169:=enters_of Tryz.func169 (by kernel_rfl) rfl
theorem E170:Enters Tryz.prog 170:=enters_of Tryz.func170 (by kernel_rfl) rfl
theorem E171:Enters Tryz.prog 171:=enters_of Tryz.func171 (by kernel_rfl) rfl
theorem E172:Enters Tryz.prog 172:=enters_of Tryz.func172 (by kernel_rfl) rfl
theorem E173:Enters Tryz.prog 173:=enters_of Tryz.func173 (by kernel_rfl) rfl
theorem E174:Enters Tryz.prog 174:=enters_of Tryz.func174 (by kernel_rfl) rfl
theorem E175:Enters Tryz.prog 175:=enters_of Tryz.func175 (by kernel_rfl) rfl
theorem E176:Enters Tryz.prog 176:=enters_of Tryz.func176 (by kernel_rfl) rfl
theorem E178:Enters Tryz.prog 178:=enters_of Tryz.func178 (by kernel_rfl) rfl
theorem E181:Enters Tryz.prog 181:=enters_of Tryz.func181 (by kernel_rfl) rfl
theorem E182:Enters Tryz.prog 182:=enters_of Tryz.func182 (by kernel_rfl) rfl
theorem E183:Enters Tryz.prog 183:=enters_of Tryz.func183 (by kernel_rfl) rfl
theorem E184:Enters Tryz.prog 184:=enters_of Tryz.func184 (by kernel_rfl) rfl
theorem E185:Enters Tryz.prog 185:=enters_of Tryz.func185 (by kernel_rfl) rfl
theorem E186:Enters Tryz.prog 186:=enters_of Tryz.func186 (by kernel_rfl) rfl
theorem E187:Enters Tryz.prog 187:=enters_of Tryz.func187 (by kernel_rfl) rfl
theorem E188:Enters Tryz.prog 188:=enters_of Tryz.func188 (by kernel_rfl) rfl
theorem E189:Enters Tryz.prog 189:=enters_of Tryz.func189 (by kernel_rfl) rfl
theorem E190:Enters Tryz.prog 190:=enters_of Tryz.func190 (by kernel_rfl) rfl
theorem E191:Enters Tryz.prog 191:=enters_of Tryz.func191 (by kernel_rfl) rfl
theorem E192:Enters Tryz.prog 192:=enters_of Tryz.func192 (by kernel_rfl) rfl
theorem E193:Enters Tryz.prog 193:=enters_of Tryz.func193 (by kernel_rfl) rfl
theorem E195:Enters Tryz.prog 195:=enters_of Tryz.func195 (by kernel_rfl) rfl
theorem E196:Enters Tryz.prog 196:=enters_of Tryz.func196 (by kernel_rfl) rfl
theorem E199:Enters Tryz.prog 199:=enters_of Tryz.func199 (by kernel_rfl) rfl
theorem E200:Enters Tryz.prog 200:=enters_of Tryz.func200 (by kernel_rfl) rfl
theorem E201:Enters Tryz.prog 201:=enters_of Tryz.func201 (by kernel_rfl) rfl
theorem E202:Enters Tryz.prog 202:=enters_of Tryz.func202 (by kernel_rfl) rfl
theorem E203:Enters Tryz.prog 203:=enters_of Tryz.func203 (by kernel_rfl) rfl
theorem E205:Enters Tryz.prog 205:=enters_of Tryz.func205 (by kernel_rfl) rfl
theorem E206:Enters Tryz.prog 206:=enters_of Tryz.func206 (by kernel_rfl) rfl
theorem E209:Enters Tryz.prog 209:=enters_of Tryz.func209 (by kernel_rfl) rfl
theorem E210:Enters Tryz.prog 210:=enters_of Tryz.func210 (by kernel_rfl) rfl
theorem E212:Enters Tryz.prog 212:=enters_of Tryz.func212 (by kernel_rfl) rfl
theorem E230:Enters Tryz.prog 230:=enters_of Tryz.func230 (by kernel_rfl) rfl
theorem ag26:AggT Tryz.prog 26 1:=⟨by kernel_rfl,by kernel_rfl⟩
theorem ag33:AggT Tryz.prog 33 4:=⟨by kernel_rfl,by kernel_rfl⟩
theorem ag40:AggT Tryz.prog 40 7:=⟨by kernel_rfl,by kernel_rfl⟩
theorem ag50:AggT Tryz.prog 50 6:=⟨by kernel_rfl,by kernel_rfl⟩
theorem ag58:AggT Tryz.prog 58 2:=⟨by kernel_rfl,by kernel_rfl⟩
theorem ag60:AggT Tryz.prog 60 4:=⟨by kernel_rfl,by kernel_rfl⟩
theorem ag61:AggT Tryz.prog 61 32:=⟨by kernel_rfl,by kernel_rfl⟩
theorem ag68:AggT Tryz.prog 68 2:=⟨by kernel_rfl,by kernel_rfl⟩
theorem ag76:AggT Tryz.prog 76 5:=⟨by kernel_rfl,by kernel_rfl⟩
theorem ag83:AggT Tryz.prog 83 8:=⟨by kernel_rfl,by kernel_rfl⟩
theorem ag99:AggT Tryz.prog 99 8:=⟨by kernel_rfl,by kernel_rfl⟩
theorem ag101:AggT Tryz.prog 101 12:=⟨by kernel_rfl,by kernel_rfl⟩
theorem eg99:Tryz.prog.eqGuardType Tryz.prog.depth 99=false:=by kernel_rfl
theorem el9:ElT Tryz.prog 9 (.string ByteArray.empty) 1 16:=by unfold ElT; kernel_rfl
theorem el40:ElT Tryz.prog 40 (.agg ([.int .i64 0,.string ByteArray.empty,.int .i64 0,.int .i64 0,.int .i64 0,.slice none 0 0,.bool false]).toArray) 7 80:=by unfold ElT; kernel_rfl
theorem el68:ElT Tryz.prog 68 (.agg ([.int .i64 0,.slice none 0 0]).toArray) 2 32:=by unfold ElT; kernel_rfl
theorem el101:ElT Tryz.prog 101 (.agg (([.bool false,.slice none 0 0,.bool false,.slice none 0 0]:List Value)++(vecG (Value.int .i64) 8 (fun _=>0))).toArray) 12 128:=by unfold ElT; kernel_rfl
theorem el156:ElT Tryz.prog 156 (.int .u32 0) 1 4:=by unfold ElT; kernel_rfl
theorem Y0.Zkt{N:Nat}{dst:Option Nat}{ty:TypeId}{pos:String}{af:Array Edge}{g:Option (Nat×Bool)}{fr:Fr}{S:Asrt}{x:Operand}{b off:Nat}(hx:fr.ev x=some (.pointer (some ⟨b,off,none⟩))):Y0 Tryz.prog N ⟨dst,.fieldAddr 26 x 0,ty,pos,af,g⟩ fr S (.pointer (some ⟨b,off+0,none⟩)):=by
 have h:Y0 Tryz.prog N ⟨dst,.fieldAddr 26 x 0,ty,pos,af,g⟩ fr S _:=Y0.fieldAddr Tryz.underlying26 rfl (fun _=>by kernel_rfl) hx
 exact h
theorem Y0.Zoo{N:Nat}{dst:Option Nat}{ty:TypeId}{pos:String}{af:Array Edge}{g:Option (Nat×Bool)}{fr:Fr}{S:Asrt}{x:Operand}{b off:Nat}(hx:fr.ev x=some (.pointer (some ⟨b,off,none⟩))):Y0 Tryz.prog N ⟨dst,.fieldAddr 33 x 0,ty,pos,af,g⟩ fr S (.pointer (some ⟨b,off+0,none⟩)):=by
 have h:Y0 Tryz.prog N ⟨dst,.fieldAddr 33 x 0,ty,pos,af,g⟩ fr S _:=Y0.fieldAddr Tryz.underlying33 rfl (fun _=>by kernel_rfl) hx
 exact h
theorem Y0.Zop{N:Nat}{dst:Option Nat}{ty:TypeId}{pos:String}{af:Array Edge}{g:Option (Nat×Bool)}{fr:Fr}{S:Asrt}{x:Operand}{b off:Nat}(hx:fr.ev x=some (.pointer (some ⟨b,off,none⟩))):Y0 Tryz.prog N ⟨dst,.fieldAddr 33 x 1,ty,pos,af,g⟩ fr S (.pointer (some ⟨b,off+1,none⟩)):=by
 have h:Y0 Tryz.prog N ⟨dst,.fieldAddr 33 x 1,ty,pos,af,g⟩ fr S _:=Y0.fieldAddr Tryz.underlying33 rfl (fun _=>by kernel_rfl) hx
 exact h
theorem Y0.Zoq{N:Nat}{dst:Option Nat}{ty:TypeId}{pos:String}{af:Array Edge}{g:Option (Nat×Bool)}{fr:Fr}{S:Asrt}{x:Operand}{b off:Nat}(hx:fr.ev x=some (.pointer (some ⟨b,off,none⟩))):Y0 Tryz.prog N ⟨dst,.fieldAddr 33 x 2,ty,pos,af,g⟩ fr S (.pointer (some ⟨b,off+2,none⟩)):=by
 have h:Y0 Tryz.prog N ⟨dst,.fieldAddr 33 x 2,ty,pos,af,g⟩ fr S _:=Y0.fieldAddr Tryz.underlying33 rfl (fun _=>by kernel_rfl) hx
 exact h
theorem Y0.Zor{N:Nat}{dst:Option Nat}{ty:TypeId}{pos:String}{af:Array Edge}{g:Option (Nat×Bool)}{fr:Fr}{S:Asrt}{x:Operand}{b off:Nat}(hx:fr.ev x=some (.pointer (some ⟨b,off,none⟩))):Y0 Tryz.prog N ⟨dst,.fieldAddr 33 x 3,ty,pos,af,g⟩ fr S (.pointer (some ⟨b,off+3,none⟩)):=by
 have h:Y0 Tryz.prog N ⟨dst,.fieldAddr 33 x 3,ty,pos,af,g⟩ fr S _:=Y0.fieldAddr Tryz.underlying33 rfl (fun _=>by kernel_rfl) hx
 exact h
theorem Y0.Zos{N:Nat}{dst:Option Nat}{ty:TypeId}{pos:String}{af:Array Edge}{g:Option (Nat×Bool)}{fr:Fr}{S:Asrt}{x:Operand}{b off:Nat}(hx:fr.ev x=some (.pointer (some ⟨b,off,none⟩))):Y0 Tryz.prog N ⟨dst,.fieldAddr 40 x 0,ty,pos,af,g⟩ fr S (.pointer (some ⟨b,off+0,none⟩)):=by
 have h:Y0 Tryz.prog N ⟨dst,.fieldAddr 40 x 0,ty,pos,af,g⟩ fr S _:=Y0.fieldAddr Tryz.underlying40 rfl (fun _=>by kernel_rfl) hx
 exact h
theorem Y0.Zot{N:Nat}{dst:Option Nat}{ty:TypeId}{pos:String}{af:Array Edge}{g:Option (Nat×Bool)}{fr:Fr}{S:Asrt}{x:Operand}{b off:Nat}(hx:fr.ev x=some (.pointer (some ⟨b,off,none⟩))):Y0 Tryz.prog N ⟨dst,.fieldAddr 40 x 1,ty,pos,af,g⟩ fr S (.pointer (some ⟨b,off+1,none⟩)):=by
 have h:Y0 Tryz.prog N ⟨dst,.fieldAddr 40 x 1,ty,pos,af,g⟩ fr S _:=Y0.fieldAddr Tryz.underlying40 rfl (fun _=>by kernel_rfl) hx
 exact h
theorem Y0.Zou{N:Nat}{dst:Option Nat}{ty:TypeId}{pos:String}{af:Array Edge}{g:Option (Nat×Bool)}{fr:Fr}{S:Asrt}{x:Operand}{b off:Nat}(hx:fr.ev x=some (.pointer (some ⟨b,off,none⟩))):Y0 Tryz.prog N ⟨dst,.fieldAddr 40 x 2,ty,pos,af,g⟩ fr S (.pointer (some ⟨b,off+2,none⟩)):=by
 have h:Y0 Tryz.prog N ⟨dst,.fieldAddr 40 x 2,ty,pos,af,g⟩ fr S _:=Y0.fieldAddr Tryz.underlying40 rfl (fun _=>by kernel_rfl) hx
 exact h
theorem Y0.Zov{N:Nat}{dst:Option Nat}{ty:TypeId}{pos:String}{af:Array Edge}{g:Option (Nat×Bool)}{fr:Fr}{S:Asrt}{x:Operand}{b off:Nat}(hx:fr.ev x=some (.pointer (some ⟨b,off,none⟩))):Y0 Tryz.prog N ⟨dst,.fieldAddr 40 x 3,ty,pos,af,g⟩ fr S (.pointer (some ⟨b,off+3,none⟩)):=by
 have h:Y0 Tryz.prog N ⟨dst,.fieldAddr 40 x 3,ty,pos,af,g⟩ fr S _:=Y0.fieldAddr Tryz.underlying40 rfl (fun _=>by kernel_rfl) hx
 exact h
theorem Y0.Zow{N:Nat}{dst:Option Nat}{ty:TypeId}{pos:String}{af:Array Edge}{g:Option (Nat×Bool)}{fr:Fr}{S:Asrt}{x:Operand}{b off:Nat}(hx:fr.ev x=some (.pointer (some ⟨b,off,none⟩))):Y0 Tryz.prog N ⟨dst,.fieldAddr 40 x 4,ty,pos,af,g⟩ fr S (.pointer (some ⟨b,off+4,none⟩)):=by
 have h:Y0 Tryz.prog N ⟨dst,.fieldAddr 40 x 4,ty,pos,af,g⟩ fr S _:=Y0.fieldAddr Tryz.underlying40 rfl (fun _=>by kernel_rfl) hx
 exact h
theorem Y0.Zox{N:Nat}{dst:Option Nat}{ty:TypeId}{pos:String}{af:Array Edge}{g:Option (Nat×Bool)}{fr:Fr}{S:Asrt}{x:Operand}{b off:Nat}(hx:fr.ev x=some (.pointer (some ⟨b,off,none⟩))):Y0 Tryz.prog N ⟨dst,.fieldAddr 40 x 5,ty,pos,af,g⟩ fr S (.pointer (some ⟨b,off+5,none⟩)):=by
 have h:Y0 Tryz.prog N ⟨dst,.fieldAddr 40 x 5,ty,pos,af,g⟩ fr S _:=Y0.fieldAddr Tryz.underlying40 rfl (fun _=>by kernel_rfl) hx
 exact h
theorem Y0.Zoy{N:Nat}{dst:Option Nat}{ty:TypeId}{pos:String}{af:Array Edge}{g:Option (Nat×Bool)}{fr:Fr}{S:Asrt}{x:Operand}{b off:Nat}(hx:fr.ev x=some (.pointer (some ⟨b,off,none⟩))):Y0 Tryz.prog N ⟨dst,.fieldAddr 40 x 6,ty,pos,af,g⟩ fr S (.pointer (some ⟨b,off+6,none⟩)):=by
 have h:Y0 Tryz.prog N ⟨dst,.fieldAddr 40 x 6,ty,pos,af,g⟩ fr S _:=Y0.fieldAddr Tryz.underlying40 rfl (fun _=>by kernel_rfl) hx
 exact h
theorem Y0.Zoz{N:Nat}{dst:Option Nat}{ty:TypeId}{pos:String}{af:Array Edge}{g:Option (Nat×Bool)}{fr:Fr}{S:Asrt}{x:Operand}{b off:Nat}(hx:fr.ev x=some (.pointer (some ⟨b,off,none⟩))):Y0 Tryz.prog N ⟨dst,.fieldAddr 50 x 0,ty,pos,af,g⟩ fr S (.pointer (some ⟨b,off+0,none⟩)):=by
 have h:Y0 Tryz.prog N ⟨dst,.fieldAddr 50 x 0,ty,pos,af,g⟩ fr S _:=Y0.fieldAddr Tryz.underlying50 rfl (fun _=>by kernel_rfl) hx
 exact h
theorem Y0.ZoA{N:Nat}{dst:Option Nat}{ty:TypeId}{pos:String}{af:Array Edge}{g:Option (Nat×Bool)}{fr:Fr}{S:Asrt}{x:Operand}{b off:Nat}(hx:fr.ev x=some (.pointer (some ⟨b,off,none⟩))):Y0 Tryz.prog N ⟨dst,.fieldAddr 50 x 1,ty,pos,af,g⟩ fr S (.pointer (some ⟨b,off+4,none⟩)):=by
 have h:Y0 Tryz.prog N ⟨dst,.fieldAddr 50 x 1,ty,pos,af,g⟩ fr S _:=Y0.fieldAddr Tryz.underlying50 rfl (fun _=>by kernel_rfl) hx
 exact h
theorem Y0.ZoB{N:Nat}{dst:Option Nat}{ty:TypeId}{pos:String}{af:Array Edge}{g:Option (Nat×Bool)}{fr:Fr}{S:Asrt}{x:Operand}{b off:Nat}(hx:fr.ev x=some (.pointer (some ⟨b,off,none⟩))):Y0 Tryz.prog N ⟨dst,.fieldAddr 50 x 2,ty,pos,af,g⟩ fr S (.pointer (some ⟨b,off+5,none⟩)):=by
 have h:Y0 Tryz.prog N ⟨dst,.fieldAddr 50 x 2,ty,pos,af,g⟩ fr S _:=Y0.fieldAddr Tryz.underlying50 rfl (fun _=>by kernel_rfl) hx
 exact h
theorem Y0.ZoC{N:Nat}{dst:Option Nat}{ty:TypeId}{pos:String}{af:Array Edge}{g:Option (Nat×Bool)}{fr:Fr}{S:Asrt}{x:Operand}{b off:Nat}(hx:fr.ev x=some (.pointer (some ⟨b,off,none⟩))):Y0 Tryz.prog N ⟨dst,.fieldAddr 58 x 0,ty,pos,af,g⟩ fr S (.pointer (some ⟨b,off+0,none⟩)):=by
 have h:Y0 Tryz.prog N ⟨dst,.fieldAddr 58 x 0,ty,pos,af,g⟩ fr S _:=Y0.fieldAddr Tryz.underlying58 rfl (fun _=>by kernel_rfl) hx
 exact h
theorem Y0.ZoD{N:Nat}{dst:Option Nat}{ty:TypeId}{pos:String}{af:Array Edge}{g:Option (Nat×Bool)}{fr:Fr}{S:Asrt}{x:Operand}{b off:Nat}(hx:fr.ev x=some (.pointer (some ⟨b,off,none⟩))):Y0 Tryz.prog N ⟨dst,.fieldAddr 58 x 1,ty,pos,af,g⟩ fr S (.pointer (some ⟨b,off+1,none⟩)):=by
 have h:Y0 Tryz.prog N ⟨dst,.fieldAddr 58 x 1,ty,pos,af,g⟩ fr S _:=Y0.fieldAddr Tryz.underlying58 rfl (fun _=>by kernel_rfl) hx
 exact h
theorem Y0.ZoE{N:Nat}{dst:Option Nat}{ty:TypeId}{pos:String}{af:Array Edge}{g:Option (Nat×Bool)}{fr:Fr}{S:Asrt}{x:Operand}{b off:Nat}(hx:fr.ev x=some (.pointer (some ⟨b,off,none⟩))):Y0 Tryz.prog N ⟨dst,.fieldAddr 60 x 0,ty,pos,af,g⟩ fr S (.pointer (some ⟨b,off+0,none⟩)):=by
 have h:Y0 Tryz.prog N ⟨dst,.fieldAddr 60 x 0,ty,pos,af,g⟩ fr S _:=Y0.fieldAddr Tryz.underlying60 rfl (fun _=>by kernel_rfl) hx
 exact h
theorem Y0.ZoF{N:Nat}{dst:Option Nat}{ty:TypeId}{pos:String}{af:Array Edge}{g:Option (Nat×Bool)}{fr:Fr}{S:Asrt}{x:Operand}{b off:Nat}(hx:fr.ev x=some (.pointer (some ⟨b,off,none⟩))):Y0 Tryz.prog N ⟨dst,.fieldAddr 60 x 1,ty,pos,af,g⟩ fr S (.pointer (some ⟨b,off+2,none⟩)):=by
 have h:Y0 Tryz.prog N ⟨dst,.fieldAddr 60 x 1,ty,pos,af,g⟩ fr S _:=Y0.fieldAddr Tryz.underlying60 rfl (fun _=>by kernel_rfl) hx
 exact h
theorem Y0.ZoG{N:Nat}{dst:Option Nat}{ty:TypeId}{pos:String}{af:Array Edge}{g:Option (Nat×Bool)}{fr:Fr}{S:Asrt}{x:Operand}{b off:Nat}(hx:fr.ev x=some (.pointer (some ⟨b,off,none⟩))):Y0 Tryz.prog N ⟨dst,.fieldAddr 68 x 0,ty,pos,af,g⟩ fr S (.pointer (some ⟨b,off+0,none⟩)):=by
 have h:Y0 Tryz.prog N ⟨dst,.fieldAddr 68 x 0,ty,pos,af,g⟩ fr S _:=Y0.fieldAddr Tryz.underlying68 rfl (fun _=>by kernel_rfl) hx
 exact h
theorem Y0.ZoH{N:Nat}{dst:Option Nat}{ty:TypeId}{pos:String}{af:Array Edge}{g:Option (Nat×Bool)}{fr:Fr}{S:Asrt}{x:Operand}{b off:Nat}(hx:fr.ev x=some (.pointer (some ⟨b,off,none⟩))):Y0 Tryz.prog N ⟨dst,.fieldAddr 68 x 1,ty,pos,af,g⟩ fr S (.pointer (some ⟨b,off+1,none⟩)):=by
 have h:Y0 Tryz.prog N ⟨dst,.fieldAddr 68 x 1,ty,pos,af,g⟩ fr S _:=Y0.fieldAddr Tryz.underlying68 rfl (fun _=>by kernel_rfl) hx
 exact h
theorem Y0.ZmF{N:Nat}{dst:Option Nat}{ty:TypeId}{pos:String}{af:Array Edge}{g:Option (Nat×Bool)}{fr:Fr}{S:Asrt}{x:Operand}{b off:Nat}(hx:fr.ev x=some (.pointer (some ⟨b,off,none⟩))):Y0 Tryz.prog N ⟨dst,.fieldAddr 76 x 0,ty,pos,af,g⟩ fr S (.pointer (some ⟨b,off+0,none⟩)):=by
 have h:Y0 Tryz.prog N ⟨dst,.fieldAddr 76 x 0,ty,pos,af,g⟩ fr S _:=Y0.fieldAddr Tryz.underlying76 rfl (fun _=>by kernel_rfl) hx
 exact h
theorem Y0.Zku{N:Nat}{dst:Option Nat}{ty:TypeId}{pos:String}{af:Array Edge}{g:Option (Nat×Bool)}{fr:Fr}{S:Asrt}{x:Operand}{b off:Nat}(hx:fr.ev x=some (.pointer (some ⟨b,off,none⟩))):Y0 Tryz.prog N ⟨dst,.fieldAddr 76 x 1,ty,pos,af,g⟩ fr S (.pointer (some ⟨b,off+1,none⟩)):=by
 have h:Y0 Tryz.prog N ⟨dst,.fieldAddr 76 x 1,ty,pos,af,g⟩ fr S _:=Y0.fieldAddr Tryz.underlying76 rfl (fun _=>by kernel_rfl) hx
 exact h
theorem Y0.ZmG{N:Nat}{dst:Option Nat}{ty:TypeId}{pos:String}{af:Array Edge}{g:Option (Nat×Bool)}{fr:Fr}{S:Asrt}{x:Operand}{b off:Nat}(hx:fr.ev x=some (.pointer (some ⟨b,off,none⟩))):Y0 Tryz.prog N ⟨dst,.fieldAddr 76 x 2,ty,pos,af,g⟩ fr S (.pointer (some ⟨b,off+2,none⟩)):=by
 have h:Y0 Tryz.prog N ⟨dst,.fieldAddr 76 x 2,ty,pos,af,g⟩ fr S _:=Y0.fieldAddr Tryz.underlying76 rfl (fun _=>by kernel_rfl) hx
 exact h
theorem Y0.Zkv{N:Nat}{dst:Option Nat}{ty:TypeId}{pos:String}{af:Array Edge}{g:Option (Nat×Bool)}{fr:Fr}{S:Asrt}{x:Operand}{b off:Nat}(hx:fr.ev x=some (.pointer (some ⟨b,off,none⟩))):Y0 Tryz.prog N ⟨dst,.fieldAddr 76 x 3,ty,pos,af,g⟩ fr S (.pointer (some ⟨b,off+3,none⟩)):=by
 have h:Y0 Tryz.prog N ⟨dst,.fieldAddr 76 x 3,ty,pos,af,g⟩ fr S _:=Y0.fieldAddr Tryz.underlying76 rfl (fun _=>by kernel_rfl) hx
 exact h
theorem Y0.ZoI{N:Nat}{dst:Option Nat}{ty:TypeId}{pos:String}{af:Array Edge}{g:Option (Nat×Bool)}{fr:Fr}{S:Asrt}{x:Operand}{b off:Nat}(hx:fr.ev x=some (.pointer (some ⟨b,off,none⟩))):Y0 Tryz.prog N ⟨dst,.fieldAddr 76 x 4,ty,pos,af,g⟩ fr S (.pointer (some ⟨b,off+4,none⟩)):=by
 have h:Y0 Tryz.prog N ⟨dst,.fieldAddr 76 x 4,ty,pos,af,g⟩ fr S _:=Y0.fieldAddr Tryz.underlying76 rfl (fun _=>by kernel_rfl) hx
 exact h
theorem Y0.Zn5{N:Nat}{dst:Option Nat}{ty:TypeId}{pos:String}{af:Array Edge}{g:Option (Nat×Bool)}{fr:Fr}{S:Asrt}{x:Operand}{b off:Nat}(hx:fr.ev x=some (.pointer (some ⟨b,off,none⟩))):Y0 Tryz.prog N ⟨dst,.fieldAddr 101 x 0,ty,pos,af,g⟩ fr S (.pointer (some ⟨b,off+0,none⟩)):=by
 have h:Y0 Tryz.prog N ⟨dst,.fieldAddr 101 x 0,ty,pos,af,g⟩ fr S _:=Y0.fieldAddr Tryz.underlying101 rfl (fun _=>by kernel_rfl) hx
 exact h
theorem Y0.Zn6{N:Nat}{dst:Option Nat}{ty:TypeId}{pos:String}{af:Array Edge}{g:Option (Nat×Bool)}{fr:Fr}{S:Asrt}{x:Operand}{b off:Nat}(hx:fr.ev x=some (.pointer (some ⟨b,off,none⟩))):Y0 Tryz.prog N ⟨dst,.fieldAddr 101 x 1,ty,pos,af,g⟩ fr S (.pointer (some ⟨b,off+4,none⟩)):=by
 have h:Y0 Tryz.prog N ⟨dst,.fieldAddr 101 x 1,ty,pos,af,g⟩ fr S _:=Y0.fieldAddr Tryz.underlying101 rfl (fun _=>by kernel_rfl) hx
 exact h
def ky3:Ky Tryz.prog 3 Int:=Ky.int Tryz.underlying3
def ky9:Ky Tryz.prog 9 ByteArray:=Ky.str Tryz.underlying9
theorem laid99:laidOutB Tryz.prog=true:=by kernel_rfl
def ky99:Ky Tryz.prog 99 (Fin 8→Int):=Ky.arr Tryz.underlying99 Tryz.underlying3 (by kernel_rfl) (by kernel_rfl) (by kernel_rfl) laid99 (of_decide_eq_true (by kernel_rfl)) (by kernel_rfl)
theorem sc3:ScalT Tryz.prog 3:=by unfold ScalT; kernel_rfl
theorem sc4:ScalT Tryz.prog 4:=by unfold ScalT; kernel_rfl
theorem sc5:ScalT Tryz.prog 5:=by unfold ScalT; kernel_rfl
theorem sc9:ScalT Tryz.prog 9:=by unfold ScalT; kernel_rfl
theorem sc23:ScalT Tryz.prog 23:=by unfold ScalT; kernel_rfl
theorem sc24:ScalT Tryz.prog 24:=by unfold ScalT; kernel_rfl
theorem sc29:ScalT Tryz.prog 29:=by unfold ScalT; kernel_rfl
theorem sc30:ScalT Tryz.prog 30:=by unfold ScalT; kernel_rfl
theorem sc31:ScalT Tryz.prog 31:=by unfold ScalT; kernel_rfl
theorem sc38:ScalT Tryz.prog 38:=by unfold ScalT; kernel_rfl
theorem sc42:ScalT Tryz.prog 42:=by unfold ScalT; kernel_rfl
theorem sc56:ScalT Tryz.prog 56:=by unfold ScalT; kernel_rfl
theorem sc131:ScalT Tryz.prog 131:=by unfold ScalT; kernel_rfl
theorem sc156:ScalT Tryz.prog 156:=by unfold ScalT; kernel_rfl
theorem sz3:(Tryz.prog.info? 3).map (·.size)=some 1:=by kernel_rfl
theorem sz4:(Tryz.prog.info? 4).map (·.size)=some 1:=by kernel_rfl
theorem sz9:(Tryz.prog.info? 9).map (·.size)=some 1:=by kernel_rfl
theorem sz23:(Tryz.prog.info? 23).map (·.size)=some 1:=by kernel_rfl
theorem sz30:(Tryz.prog.info? 30).map (·.size)=some 1:=by kernel_rfl
theorem sz31:(Tryz.prog.info? 31).map (·.size)=some 1:=by kernel_rfl
theorem sz33:(Tryz.prog.info? 33).map (·.size)=some 4:=by kernel_rfl
theorem sz38:(Tryz.prog.info? 38).map (·.size)=some 1:=by kernel_rfl
theorem sz40:(Tryz.prog.info? 40).map (·.size)=some 7:=by kernel_rfl
theorem sz50:(Tryz.prog.info? 50).map (·.size)=some 6:=by kernel_rfl
theorem sz58:(Tryz.prog.info? 58).map (·.size)=some 2:=by kernel_rfl
theorem sz60:(Tryz.prog.info? 60).map (·.size)=some 4:=by kernel_rfl
theorem sz61:(Tryz.prog.info? 61).map (·.size)=some 32:=by kernel_rfl
theorem sz68:(Tryz.prog.info? 68).map (·.size)=some 2:=by kernel_rfl
theorem sz76:(Tryz.prog.info? 76).map (·.size)=some 5:=by kernel_rfl
theorem sz83:(Tryz.prog.info? 83).map (·.size)=some 8:=by kernel_rfl
theorem sz99:(Tryz.prog.info? 99).map (·.size)=some 8:=by kernel_rfl
theorem sz101:(Tryz.prog.info? 101).map (·.size)=some 12:=by kernel_rfl
theorem sz112:(Tryz.prog.info? 112).map (·.size)=some 5:=by kernel_rfl
theorem sz131:(Tryz.prog.info? 131).map (·.size)=some 1:=by kernel_rfl
theorem sz156:(Tryz.prog.info? 156).map (·.size)=some 1:=by kernel_rfl
theorem sz176:(Tryz.prog.info? 176).map (·.size)=some 8:=by kernel_rfl
theorem z3:(Tryz.prog.info? 3).map (·.zero)=some (some (.int .i64 0)):=by kernel_rfl
theorem z4:(Tryz.prog.info? 4).map (·.zero)=some (some (.bool false)):=by kernel_rfl
theorem z9:(Tryz.prog.info? 9).map (·.zero)=some (some (.string ByteArray.empty)):=by kernel_rfl
theorem z33:(Tryz.prog.info? 33).map (·.zero)=some (some (.agg ([.slice none 0 0,.slice none 0 0,.slice none 0 0,.int .i64 0]).toArray)):=by kernel_rfl
theorem z40:(Tryz.prog.info? 40).map (·.zero)=some (some (.agg ([.int .i64 0,.string ByteArray.empty,.int .i64 0,.int .i64 0,.int .i64 0,.slice none 0 0,.bool false]).toArray)):=by kernel_rfl
theorem z50:(Tryz.prog.info? 50).map (·.zero)=some (some (.agg ([.slice none 0 0,.slice none 0 0,.slice none 0 0,.int .i64 0,.int .i64 0,.int .i64 0]).toArray)):=by kernel_rfl
theorem z58:(Tryz.prog.info? 58).map (·.zero)=some (some (.agg ([.bool false,.slice none 0 0]).toArray)):=by kernel_rfl
theorem z60:(Tryz.prog.info? 60).map (·.zero)=some (some (.agg ([.bool false,.slice none 0 0,.bool false,.slice none 0 0]).toArray)):=by kernel_rfl
theorem z61:(Tryz.prog.info? 61).map (·.zero)=some (some (.agg (([.bool false,.slice none 0 0,.bool false,.slice none 0 0,.bool false,.slice none 0 0,.bool false,.slice none 0 0,.bool false,.slice none 0 0,.bool false,.slice none 0 0,.bool false,.slice none 0 0,.bool false,.slice none 0 0,.bool false,.slice none 0 0,.bool false,.slice none 0 0,.bool false,.slice none 0 0,.bool false,.slice none 0 0,.bool false,.slice none 0 0,.bool false,.slice none 0 0,.bool false,.slice none 0 0,.bool false,.slice none 0 0]:List Value)).toArray)):=by kernel_rfl
theorem z68:(Tryz.prog.info? 68).map (·.zero)=some (some (.agg ([.int .i64 0,.slice none 0 0]).toArray)):=by kernel_rfl
theorem z83:(Tryz.prog.info? 83).map (·.zero)=some (some (.agg (vecG (Value.int .i64) 8 (fun _=>0)).toArray)):=by kernel_rfl
theorem z99:(Tryz.prog.info? 99).map (·.zero)=some (some (.agg (vecG (Value.int .i64) 8 (fun _=>0)).toArray)):=by kernel_rfl
theorem z101:(Tryz.prog.info? 101).map (·.zero)=some (some (.agg (([.bool false,.slice none 0 0,.bool false,.slice none 0 0]:List Value)++(vecG (Value.int .i64) 8 (fun _=>0))).toArray)):=by kernel_rfl
theorem z176:(Tryz.prog.info? 176).map (·.zero)=some (some (.agg (vecG Value.bool 8 (fun _=>false)).toArray)):=by kernel_rfl
theorem zv4(w:World):(zeroValue 4).run Tryz.prog w = .ok (.bool false) w:=by kernel_rfl
theorem zv44(w:World):(zeroValue 44).run Tryz.prog w = .ok .nilFunc w:=by kernel_rfl
end Go.Proofs.YtenaadodnembpaaGreat

namespace Go.EL
open Go Go.EL Go.RowKit Go.Proofs
structure ZF where
 t:(List (Fin 5→Int))
abbrev Zhj:Rp ZF:=Rp.via (Rp.sl (Rp.vec .i8 5)) (fun x=>x.t)
structure Zg where
 neg:Bool
 mag:(List Int)
abbrev Zd2:Rp Zg:=Rp.via (Rp.pair Rp.bool (Rp.sl (Rp.int .u32))) (fun x=>(x.neg,x.mag))
theorem Zl4{G:Mem}{K:Nat→Value→Prop}{o:Nat}{x:Zg}(h:AtK Zd2 G K o x):∃ zmagp zmagc,(∀ (j:Nat) (u:Value),([.bool x.neg,.slice zmagp x.mag.length zmagc]).toArray[j]? = some u→K (o+j) u)∧SlR (Rp.int .u32) G (.slice zmagp x.mag.length zmagc) x.mag:=by
 obtain⟨c,h,hc⟩:=h
 obtain⟨c1,d1,e1,h1,k1⟩:=h
 subst e1
 replace h1:_=([.bool _]:List Value):=h1
 subst h1
 obtain⟨v3,e3,s3⟩:=k1
 subst e3
 obtain⟨p3,q3,f3⟩:=SlR.form s3
 subst f3
 exact⟨p3,q3,fun j u hu=>hc j u (by simpa using hu),s3⟩
structure Zf where
 num:Zg
 den:Zg
abbrev Zd3:Rp Zf:=Rp.via (Rp.pair Zd2 Zd2) (fun x=>(x.num,x.den))
theorem Zl5{G:Mem}{K:Nat→Value→Prop}{o:Nat}{x:Zf}(h:AtK Zd3 G K o x):∃ znummagp znummagc zdenmagp zdenmagc,(∀ (j:Nat) (u:Value),([.bool x.num.neg,.slice znummagp x.num.mag.length znummagc,.bool x.den.neg,.slice zdenmagp x.den.mag.length zdenmagc]).toArray[j]? = some u→K (o+j) u)∧SlR (Rp.int .u32) G (.slice znummagp x.num.mag.length znummagc) x.num.mag∧SlR (Rp.int .u32) G (.slice zdenmagp x.den.mag.length zdenmagc) x.den.mag:=by
 obtain⟨c,h,hc⟩:=h
 obtain⟨c1,d1,e1,h1,k1⟩:=h
 subst e1
 obtain⟨c2,d2,e2,h2,k2⟩:=h1
 subst e2
 replace h2:_=([.bool _]:List Value):=h2
 subst h2
 obtain⟨v4,e4,s4⟩:=k2
 subst e4
 obtain⟨p4,q4,f4⟩:=SlR.form s4
 subst f4
 obtain⟨c5,d5,e5,h5,k5⟩:=k1
 subst e5
 replace h5:_=([.bool _]:List Value):=h5
 subst h5
 obtain⟨v7,e7,s7⟩:=k5
 subst e7
 obtain⟨p7,q7,f7⟩:=SlR.form s7
 subst f7
 exact⟨p4,q4,p7,q7,fun j u hu=>hc j u (by simpa using hu),s4,s7⟩
theorem Zl6{G:Mem}{cs:List Value}{x:Zf}(h:Zd3.rep G cs x):∃ znummagp znummagc zdenmagp zdenmagc,cs=[.bool x.num.neg,.slice znummagp x.num.mag.length znummagc,.bool x.den.neg,.slice zdenmagp x.den.mag.length zdenmagc]∧SlR (Rp.int .u32) G (.slice znummagp x.num.mag.length znummagc) x.num.mag∧SlR (Rp.int .u32) G (.slice zdenmagp x.den.mag.length zdenmagc) x.den.mag:=by
 obtain⟨c1,d1,e1,h1,k1⟩:=h
 subst e1
 obtain⟨c2,d2,e2,h2,k2⟩:=h1
 subst e2
 replace h2:_=([.bool _]:List Value):=h2
 subst h2
 obtain⟨v4,e4,s4⟩:=k2
 subst e4
 obtain⟨p4,q4,f4⟩:=SlR.form s4
 subst f4
 obtain⟨c5,d5,e5,h5,k5⟩:=k1
 subst e5
 replace h5:_=([.bool _]:List Value):=h5
 subst h5
 obtain⟨v7,e7,s7⟩:=k5
 subst e7
 obtain⟨p7,q7,f7⟩:=SlR.form s7
 subst f7
 exact⟨p4,q4,p7,q7,rfl,s4,s7⟩
structure Zc where
 c:Zf
 m:(Fin 8→Int)
abbrev ZaZ:Rp Zc:=Rp.via (Rp.pair Zd3 (Rp.vec .i64 8)) (fun x=>(x.c,x.m))
theorem Zle{G:Mem}{K:Nat→Value→Prop}{o:Nat}{x:Zc}(h:AtK ZaZ G K o x):∃ zcnummagp zcnummagc zcdenmagp zcdenmagc,(∀ (j:Nat) (u:Value),(([.bool x.c.num.neg,.slice zcnummagp x.c.num.mag.length zcnummagc,.bool x.c.den.neg,.slice zcdenmagp x.c.den.mag.length zcdenmagc]:List Value)++(vecG (Value.int .i64) 8 x.m)).toArray[j]? = some u→K (o+j) u)∧SlR (Rp.int .u32) G (.slice zcnummagp x.c.num.mag.length zcnummagc) x.c.num.mag∧SlR (Rp.int .u32) G (.slice zcdenmagp x.c.den.mag.length zcdenmagc) x.c.den.mag:=by
 obtain⟨c,h,hc⟩:=h
 obtain⟨c1,d1,e1,h1,k1⟩:=h
 subst e1
 obtain⟨c2,d2,e2,h2,k2⟩:=h1
 subst e2
 obtain⟨c3,d3,e3,h3,k3⟩:=h2
 subst e3
 replace h3:_=([.bool _]:List Value):=h3
 subst h3
 obtain⟨v5,e5,s5⟩:=k3
 subst e5
 obtain⟨p5,q5,f5⟩:=SlR.form s5
 subst f5
 obtain⟨c6,d6,e6,h6,k6⟩:=k2
 subst e6
 replace h6:_=([.bool _]:List Value):=h6
 subst h6
 obtain⟨v8,e8,s8⟩:=k6
 subst e8
 obtain⟨p8,q8,f8⟩:=SlR.form s8
 subst f8
 replace k1:_=(vecG (Value.int .i64) 8 _:List Value):=k1
 subst k1
 exact⟨p5,q5,p8,q8,fun j u hu=>hc j u (by simpa using hu),s5,s8⟩
theorem ZhJ{G:Mem}{cs:List Value}{x:Zc}(h:ZaZ.rep G cs x):∃ zcnummagp zcnummagc zcdenmagp zcdenmagc,cs=([.bool x.c.num.neg,.slice zcnummagp x.c.num.mag.length zcnummagc,.bool x.c.den.neg,.slice zcdenmagp x.c.den.mag.length zcdenmagc]:List Value)++(vecG (Value.int .i64) 8 x.m)∧SlR (Rp.int .u32) G (.slice zcnummagp x.c.num.mag.length zcnummagc) x.c.num.mag∧SlR (Rp.int .u32) G (.slice zcdenmagp x.c.den.mag.length zcdenmagc) x.c.den.mag:=by
 obtain⟨c1,d1,e1,h1,k1⟩:=h
 subst e1
 obtain⟨c2,d2,e2,h2,k2⟩:=h1
 subst e2
 obtain⟨c3,d3,e3,h3,k3⟩:=h2
 subst e3
 replace h3:_=([.bool _]:List Value):=h3
 subst h3
 obtain⟨v5,e5,s5⟩:=k3
 subst e5
 obtain⟨p5,q5,f5⟩:=SlR.form s5
 subst f5
 obtain⟨c6,d6,e6,h6,k6⟩:=k2
 subst e6
 replace h6:_=([.bool _]:List Value):=h6
 subst h6
 obtain⟨v8,e8,s8⟩:=k6
 subst e8
 obtain⟨p8,q8,f8⟩:=SlR.form s8
 subst f8
 replace k1:_=(vecG (Value.int .i64) 8 _:List Value):=k1
 subst k1
 exact⟨p5,q5,p8,q8,rfl,s5,s8⟩
structure Za where
 id:Int
 p:(List Zc)
abbrev Zar:Rp Za:=Rp.via (Rp.pair (Rp.int .i64) (Rp.sl ZaZ)) (fun x=>(x.id,x.p))
theorem Ziw{G:Mem}{K:Nat→Value→Prop}{o:Nat}{x:Za}(h:AtK Zar G K o x):∃ zpp zpc,(∀ (j:Nat) (u:Value),([.int .i64 x.id,.slice zpp x.p.length zpc]).toArray[j]? = some u→K (o+j) u)∧SlR ZaZ G (.slice zpp x.p.length zpc) x.p:=by
 obtain⟨c,h,hc⟩:=h
 obtain⟨c1,d1,e1,h1,k1⟩:=h
 subst e1
 replace h1:_=([.int .i64 _]:List Value):=h1
 subst h1
 obtain⟨v3,e3,s3⟩:=k1
 subst e3
 obtain⟨p3,q3,f3⟩:=SlR.form s3
 subst f3
 exact⟨p3,q3,fun j u hu=>hc j u (by simpa using hu),s3⟩
structure Zb where
 vars:(List ByteArray)
 eqs:(List Za)
 neqs:(List Za)
 next:Int
abbrev Zgu:Rp Zb:=Rp.via (Rp.pair (Rp.sl Rp.str) (Rp.pair (Rp.sl Zar) (Rp.pair (Rp.sl Zar) (Rp.int .i64)))) (fun x=>(x.vars,x.eqs,x.neqs,x.next))
theorem ZjW{G:Mem}{K:Nat→Value→Prop}{o:Nat}{x:Zb}(h:AtK Zgu G K o x):∃ zvarsp zvarsc zeqsp zeqsc zneqsp zneqsc,(∀ (j:Nat) (u:Value),([.slice zvarsp x.vars.length zvarsc,.slice zeqsp x.eqs.length zeqsc,.slice zneqsp x.neqs.length zneqsc,.int .i64 x.next]).toArray[j]? = some u→K (o+j) u)∧SlR Rp.str G (.slice zvarsp x.vars.length zvarsc) x.vars∧SlR Zar G (.slice zeqsp x.eqs.length zeqsc) x.eqs∧SlR Zar G (.slice zneqsp x.neqs.length zneqsc) x.neqs:=by
 obtain⟨c,h,hc⟩:=h
 obtain⟨c1,d1,e1,h1,k1⟩:=h
 subst e1
 obtain⟨v2,e2,s2⟩:=h1
 subst e2
 obtain⟨p2,q2,f2⟩:=SlR.form s2
 subst f2
 obtain⟨c3,d3,e3,h3,k3⟩:=k1
 subst e3
 obtain⟨v4,e4,s4⟩:=h3
 subst e4
 obtain⟨p4,q4,f4⟩:=SlR.form s4
 subst f4
 obtain⟨c5,d5,e5,h5,k5⟩:=k3
 subst e5
 obtain⟨v6,e6,s6⟩:=h5
 subst e6
 obtain⟨p6,q6,f6⟩:=SlR.form s6
 subst f6
 replace k5:_=([.int .i64 _]:List Value):=k5
 subst k5
 exact⟨p2,q2,p4,q4,p6,q6,fun j u hu=>hc j u (by simpa using hu),s2,s4,s6⟩
structure Zd where
 kind:Int
 name:ByteArray
 at':Int
 to':Int
 id:Int
 p:(List Zc)
 neq:Bool
abbrev ZhT:Rp Zd:=Rp.via (Rp.pair (Rp.int .i64) (Rp.pair Rp.str (Rp.pair (Rp.int .i64) (Rp.pair (Rp.int .i64) (Rp.pair (Rp.int .i64) (Rp.pair (Rp.sl ZaZ) Rp.bool)))))) (fun x=>(x.kind,x.name,x.at',x.to',x.id,x.p,x.neq))
theorem Zld{G:Mem}{K:Nat→Value→Prop}{o:Nat}{x:Zd}(h:AtK ZhT G K o x):∃ zpp zpc,(∀ (j:Nat) (u:Value),([.int .i64 x.kind,.string x.name,.int .i64 x.at',.int .i64 x.to',.int .i64 x.id,.slice zpp x.p.length zpc,.bool x.neq]).toArray[j]? = some u→K (o+j) u)∧SlR ZaZ G (.slice zpp x.p.length zpc) x.p:=by
 obtain⟨c,h,hc⟩:=h
 obtain⟨c1,d1,e1,h1,k1⟩:=h
 subst e1
 replace h1:_=([.int .i64 _]:List Value):=h1
 subst h1
 obtain⟨c3,d3,e3,h3,k3⟩:=k1
 subst e3
 replace h3:_=([.string _]:List Value):=h3
 subst h3
 obtain⟨c5,d5,e5,h5,k5⟩:=k3
 subst e5
 replace h5:_=([.int .i64 _]:List Value):=h5
 subst h5
 obtain⟨c7,d7,e7,h7,k7⟩:=k5
 subst e7
 replace h7:_=([.int .i64 _]:List Value):=h7
 subst h7
 obtain⟨c9,d9,e9,h9,k9⟩:=k7
 subst e9
 replace h9:_=([.int .i64 _]:List Value):=h9
 subst h9
 obtain⟨c11,d11,e11,h11,k11⟩:=k9
 subst e11
 obtain⟨v12,e12,s12⟩:=h11
 subst e12
 obtain⟨p12,q12,f12⟩:=SlR.form s12
 subst f12
 replace k11:_=([.bool _]:List Value):=k11
 subst k11
 exact⟨p12,q12,fun j u hu=>hc j u (by simpa using hu),s12⟩
structure Zt where
 s:Zb
 n:Int
 e:Int
structure Zx where
 kind:Int
 a:Int
 b:Int
 n:Int
 p:ZF
abbrev ZcO:Rp Zx:=Rp.via (Rp.pair (Rp.int .u8) (Rp.pair (Rp.int .u8) (Rp.pair (Rp.int .u8) (Rp.pair (Rp.int .u8) Zhj)))) (fun x=>(x.kind,x.a,x.b,x.n,x.p))
theorem Zkq{G:Mem}{K:Nat→Value→Prop}{o:Nat}{x:Zx}(h:AtK ZcO G K o x):∃ zptp zptc,(∀ (j:Nat) (u:Value),([.int .u8 x.kind,.int .u8 x.a,.int .u8 x.b,.int .u8 x.n,.slice zptp x.p.t.length zptc]).toArray[j]? = some u→K (o+j) u)∧SlR (Rp.vec .i8 5) G (.slice zptp x.p.t.length zptc) x.p.t:=by
 obtain⟨c,h,hc⟩:=h
 obtain⟨c1,d1,e1,h1,k1⟩:=h
 subst e1
 replace h1:_=([.int .u8 _]:List Value):=h1
 subst h1
 obtain⟨c3,d3,e3,h3,k3⟩:=k1
 subst e3
 replace h3:_=([.int .u8 _]:List Value):=h3
 subst h3
 obtain⟨c5,d5,e5,h5,k5⟩:=k3
 subst e5
 replace h5:_=([.int .u8 _]:List Value):=h5
 subst h5
 obtain⟨c7,d7,e7,h7,k7⟩:=k5
 subst e7
 replace h7:_=([.int .u8 _]:List Value):=h7
 subst h7
 obtain⟨v9,e9,s9⟩:=k7
 subst e9
 obtain⟨p9,q9,f9⟩:=SlR.form s9
 subst f9
 exact⟨p9,q9,fun j u hu=>hc j u (by simpa using hu),s9⟩
end Go.EL

namespace Go.EL
open Go Go.RowKit
abbrev M:=Fin 8→Int
def cmpFrom(a b:M):Nat→Nat→Int
 | 0,_=>0
 | n+1,k=>if h:k<8 then (if a ⟨k,h⟩<b ⟨k,h⟩ then -1 else if b ⟨k,h⟩<a ⟨k,h⟩ then 1 else cmpFrom a b n (k+1)) else 0
def cmpM(a b:M):Int:=cmpFrom a b 8 0
theorem ZdY(a b:M):∀ (k:Nat),k≤8→(∀ i:Fin 8,i.val<k→a i=b i)→cmpM a b=cmpFrom a b (8-k) k
 | 0,_,_=>rfl
 | k+1,hk,h=>by
  rw[ZdY a b k (by omega) (fun i hi=>h i (by omega))]
  have hl:k<8:=by omega
  have e:=h ⟨k,hl⟩ (by simp)
  rw[show 8-k=(8-(k+1))+1 by omega]
  simp[cmpFrom,hl,e]
theorem Zlw(a b:M){k:Nat}(hk:k<8)(h:∀ i:Fin 8,i.val<k→a i=b i)(hlt:a ⟨k,hk⟩<b ⟨k,hk⟩):cmpM a b = -1:=by
 rw[ZdY a b k (by omega) h,show 8-k=(7-k)+1 by omega]
 simp[cmpFrom,hk,hlt]
theorem Zlv(a b:M){k:Nat}(hk:k<8)(h:∀ i:Fin 8,i.val<k→a i=b i)(hlt:b ⟨k,hk⟩<a ⟨k,hk⟩):cmpM a b=1:=by
 rw[ZdY a b k (by omega) h,show 8-k=(7-k)+1 by omega]
 have:¬ a ⟨k,hk⟩<b ⟨k,hk⟩:=by omega
 simp[cmpFrom,hk,hlt,this]
theorem Zlu(a b:M)(h:∀ i,a i=b i):cmpM a b=0:=by
 rw[ZdY a b 8 (by omega) (fun i _=>h i)]
 rfl
theorem ZhI(a b:M):∀ n k,cmpFrom b a n k = - cmpFrom a b n k
 | 0,_=>by simp[cmpFrom]
 | n+1,k=>by
  simp only[cmpFrom]
  split
  ·rename_i h
   rw[ZhI a b n (k+1)]
   split <;> split <;> first|omega|(split <;> omega)
  ·rfl
theorem ZdK(a b c:M):∀ n k,cmpFrom a b n k≤0→cmpFrom b c n k≤0→cmpFrom a c n k≤0∧((cmpFrom a b n k<0∨cmpFrom b c n k<0)→cmpFrom a c n k<0)
 | 0,_=>by simp[cmpFrom]
 | n+1,k=>by
  have ih:=ZdK a b c n (k+1)
  simp only[cmpFrom]
  by_cases h:k<8
  ·simp only[dif_pos h]
   by_cases h1:a ⟨k,h⟩<b ⟨k,h⟩
   ·by_cases h2:b ⟨k,h⟩<c ⟨k,h⟩
    ·simp[h1,h2,show a ⟨k,h⟩<c ⟨k,h⟩ by omega]
    ·by_cases h3:c ⟨k,h⟩<b ⟨k,h⟩
     ·simp[h2,h3]
     ·simp[show a ⟨k,h⟩<c ⟨k,h⟩ by omega]
   ·by_cases h1':b ⟨k,h⟩<a ⟨k,h⟩
    ·simp[h1,h1']
    ·by_cases h2:b ⟨k,h⟩<c ⟨k,h⟩
     ·simp[show a ⟨k,h⟩<c ⟨k,h⟩ by omega]
     ·by_cases h3:c ⟨k,h⟩<b ⟨k,h⟩
      ·simp[h2,h3]
      ·simp only[h1,h1',h2,h3,if_false,show ¬ a ⟨k,h⟩<c ⟨k,h⟩ by omega,show ¬ c ⟨k,h⟩<a ⟨k,h⟩ by omega]
       exact ih
  ·simp[h]
theorem ZgL(a b:M):∀ n k,n+k=8→cmpFrom a b n k=0→∀ i:Fin 8,k≤i.val→a i=b i
 | 0,k,e,_,i,hi=>by have:=i.isLt; omega
 | n+1,k,e,hz,i,hi=>by
  have hk:k<8:=by omega
  simp only[cmpFrom,dif_pos hk] at hz
  by_cases h1:a ⟨k,hk⟩<b ⟨k,hk⟩
  ·simp[h1] at hz
  ·by_cases h2:b ⟨k,hk⟩<a ⟨k,hk⟩
   ·simp[h1,h2] at hz
   ·simp only[h1,h2,if_false] at hz
    by_cases hik:i.val=k
    ·have:i=⟨k,hk⟩:=Fin.ext hik
     subst this; omega
    ·exact ZgL a b n (k+1) (by omega) hz i (by omega)
theorem ZbC(a b:M):cmpM b a = - cmpM a b:=ZhI a b 8 0
theorem ZjX{a b c:M}(h1:cmpM a b≤0)(h2:cmpM b c≤0):cmpM a c≤0:=(ZdK a b c 8 0 h1 h2).1
theorem Zgr{a b c:M}(h1:cmpM a b≤0)(h2:cmpM b c≤0)(h:cmpM a b<0∨cmpM b c<0):cmpM a c<0:=(ZdK a b c 8 0 h1 h2).2 h
theorem ZgM(a:M):cmpM a a=0:=Zlu a a fun _=>rfl
theorem ZeU{a b:M}(h:cmpM a b=0):a=b:=funext fun i=>ZgL a b 8 0 rfl h i (Nat.zero_le _)
theorem swoR:Go.Sort.SWO (Go.Proofs.ltOf fun a b=>cmpM b a) where
 irrefl x:=by simp[Go.Proofs.ltOf,ZgM]
 trans x y z h1 h2:=by
  simp only[Go.Proofs.ltOf,decide_eq_true_eq] at *
  exact Zgr (a:=z) (b:=y) (c:=x) (by omega) (by omega) (.inl h2)
 ntrans x y z h1 h2:=by
  simp only[Go.Proofs.ltOf,decide_eq_false_iff_not] at *
  have a:=ZbC x y
  have b:=ZbC y z
  have c:=ZbC x z
  have:=ZjX (a:=x) (b:=y) (c:=z) (by omega) (by omega)
  omega
end Go.EL

namespace Go.EL
open Go Go.EL Go.RowKit Go.Proofs
def ZU:ByteArray:=⟨#[113]⟩
def Z1:ByteArray:=⟨#[65,98,99]⟩
def Z6:ByteArray:=⟨#[117,95,49]⟩
def Zu:ByteArray:=⟨#[119]⟩
def ZA:ByteArray:=⟨#[122]⟩
def ZH:ByteArray:=⟨#[121]⟩
def Zn:ByteArray:=⟨#[120]⟩
def ZeF:ByteArray:=⟨#[0,1,2,2,3,3,3,3,4,4,4,4,4,4,4,4,5,5,5,5,5,5,5,5,5,5,5,5,5,5,5,5,6,6,6,6,6,6,6,6,6,6,6,6,6,6,6,6,6,6,6,6,6,6,6,6,6,6,6,6,6,6,6,6,7,7,7,7,7,7,7,7,7,7,7,7,7,7,7,7,7,7,7,7,7,7,7,7,7,7,7,7,7,7,7,7,7,7,7,7,7,7,7,7,7,7,7,7,7,7,7,7,7,7,7,7,7,7,7,7,7,7,7,7,7,7,7,7,8,8,8,8,8,8,8,8,8,8,8,8,8,8,8,8,8,8,8,8,8,8,8,8,8,8,8,8,8,8,8,8,8,8,8,8,8,8,8,8,8,8,8,8,8,8,8,8,8,8,8,8,8,8,8,8,8,8,8,8,8,8,8,8,8,8,8,8,8,8,8,8,8,8,8,8,8,8,8,8,8,8,8,8,8,8,8,8,8,8,8,8,8,8,8,8,8,8,8,8,8,8,8,8,8,8,8,8,8,8,8,8,8,8,8,8,8,8,8,8,8,8,8,8,8,8,8,8]⟩
def Zbe(a0:(List ByteArray))(a1:Int)(a2:(List ByteArray)):Comp (List ByteArray):=
 Comp.chk ((0≤a1∧a1≤(a0.length:Int))∧a2.length=1∧(a0.length:Int)<1000000) (Comp.ret (a0.take a1.toNat++a2++a0.drop a1.toNat))
def Zbd(a0:(List ByteArray))(a1 a2:Int):Comp (List ByteArray):=
 Comp.chk (0≤a1∧a1≤a2∧a2≤(a0.length:Int)∧(a0.length:Int)<1000000) (Comp.ret (a0.take a1.toNat++a0.drop a2.toNat))
def Zab(k:Int):Comp (List Za):=Comp.chk (0≤k∧k≤1000000) (Comp.ret [])
def ZT(a0:(List Za))(a1:Int)(a2:(List Za)):Comp (List Za):=
 Comp.chk ((0≤a1∧a1≤(a0.length:Int))∧a2.length=1∧(a0.length:Int)<1000000) (Comp.ret (a0.take a1.toNat++a2++a0.drop a1.toNat))
def Zp:List (Int×Nat):=[(1,64),(2,65),(3,66),(4,67),(5,68),(6,69),(7,70),(8,71)]
def ZcJ(a1:(Fin 8→Int))(b1:(Fin 8→Int))(i1:Int):Comp Int:=
 Comp.chk (0≤i1∧i1<8) (Comp.chk (0≤i1∧i1<8) (if (getF a1 i1)<(getF b1 i1) then (Comp.ret (-1)) else (Comp.ret 1)))
def ZiK(a1:(Fin 8→Int))(b1:(Fin 8→Int)):Int→Comp Int:=
 Comp.loop fun gs=>match gs with|i2=>Comp.chk (0≤i2∧i2<8) (Comp.chk (0≤i2∧i2<8) (if (getF a1 i2)=(getF b1 i2) then (Comp.ret (.inl (IntKind.i64.wrap (i2+1)))) else (Comp.ret (.inr i2))))
def ZbJ(a1:(Fin 8→Int))(b1:(Fin 8→Int)):Comp Int:=
 if a1=b1 then (Comp.ret 0) else (Comp.next (ZiK a1 b1 0) fun ov=>match ov with|i1=>ZcJ a1 b1 i1)
def ZcN(a1:Zc)(b1:Zc):Comp Int:=
 Comp.bind (ZbJ b1.m a1.m) fun yv1=>Comp.ret yv1
def ZW(l:List Zc)(a b lim:Int):Comp (List Zc):=
 Comp.chk (a=0∧b=(l.length:Int)∧(0≤lim∧lim<1000000)∧l.length≤1000000) (Comp.any (fun ys=>ys.Perm l∧ys.Pairwise (fun x y=>¬ cmpM x.m y.m<0)) Comp.ret)
def Ze9(l1:(List Int))(n1:Int):Comp (List Int):=
 Comp.chk (0≤(0:Int)∧(0:Int)≤n1∧n1≤(l1.length:Int)) (Comp.ret ((l1.take n1.toNat).drop (0:Int).toNat))
def ZkX(l1:(List Int)):Int→Comp Int:=
 Comp.loop fun gs=>match gs with|n2=>if 0<n2 then (Comp.at' l1 (IntKind.i64.wrap (n2-1)) fun x1=>if x1=0 then (Comp.ret (.inl (IntKind.i64.wrap (n2-1)))) else (Comp.ret (.inr n2))) else (Comp.ret (.inr n2))
def Zat(l1:(List Int)):Comp (List Int):=
 Comp.next (ZkX l1 (l1.length:Int)) fun ov=>match ov with|n1=>Ze9 l1 n1
def Zcg(n1:Int):Comp (List Int):=
 Comp.bind (Zat [IntKind.u32.wrap (Int.tmod n1 4294967296),IntKind.u32.wrap (IntKind.u64.wrap (Int.tdiv n1 4294967296))]) fun yv1=>Comp.ret yv1
def Zas(neg1:Bool)(l1:(List Int)):Comp Zg:=
 Comp.bind (Zat l1) fun yv1=>if neg1=true then (Comp.ret (Zg.mk (decide (0<(yv1.length:Int))) yv1)) else (Comp.ret (Zg.mk false yv1))
def Zir(n1:Int):Comp Zg:=
 if n1<0 then (Comp.bind (Zcg (IntKind.u64.wrap ((IntKind.u64.wrap (IntKind.i64.wrap (0-(IntKind.i64.wrap (n1+1)))))+1))) fun yv1=>Comp.bind (Zas true yv1) fun yv2=>Comp.ret yv2) else (Comp.bind (Zcg (IntKind.u64.wrap n1)) fun yv3=>Comp.bind (Zas false yv3) fun yv4=>Comp.ret yv4)
def Z5(n1:Int):Comp Zf:=
 Comp.bind (Zir n1) fun yv1=>Comp.bind (Zir 1) fun yv2=>Comp.ret (Zf.mk yv1 yv2)
def Zlq(i1:Int):Comp ((List Zc)×Int):=
 if i1<0 then (Comp.ret ([],1)) else (if 8≤i1 then Comp.fail else (Comp.chk (0≤i1∧i1<8) (Comp.bind (Z5 1) fun yv1=>Comp.ret ([(Zc.mk yv1 (setF (fun _=>0) i1.toNat 1))],0))))
def Zj4(i1:Int):Comp (List Zc):=
 Comp.bind (Zlq i1) fun yv1=>Comp.ret yv1.1
def ZfQ(a1:Zg):Comp Int:=
 if a1.neg=true then (Comp.ret (-1)) else (Comp.ret (if 1<(a1.mag.length:Int) then 1 else (a1.mag.length:Int)))
def ZbB(a1:Zf):Comp Int:=
 Comp.bind (ZfQ a1.num) fun yv1=>Comp.ret yv1
def Zeh:Comp Bool:=
 Comp.ret true
def Zka(m1:(Fin 8→Int)):Int→Comp (Bool⊕Unit):=
 Comp.loop fun gs=>match gs with|i1=>if i1<8 then (Comp.chk (0≤i1∧i1<8) (if (getF m1 i1)<0 then (Comp.ret (.inr (.inl false))) else (Comp.chk (0≤i1∧i1<8) (if 65535<(getF m1 i1) then Comp.fail else (Comp.ret (.inl (IntKind.i64.wrap (i1+1)))))))) else (Comp.ret (.inr (.inr ())))
def ZeN(m1:(Fin 8→Int)):Comp Bool:=
 Comp.next (Zka m1 0) fun ov=>match ov with | .inl rv1=>Comp.ret rv1 | .inr ()=>Zeh
def ZfW(bx1:(Fin 8→Int)):Comp ((Fin 8→Int)×Int):=
 Comp.bind (ZeN bx1) fun yv1=>if (!yv1)=true then Comp.fail else (Comp.ret (bx1,0))
def ZlX(b1:(Fin 8→Int)):(Int×(Fin 8→Int))→Comp (Fin 8→Int):=
 Comp.loop fun gs=>match gs with|(i1,bx2)=>if i1<8 then (Comp.chk (0≤i1∧i1<8) (Comp.chk (0≤i1∧i1<8) (Comp.chk (0≤i1∧i1<8) (Comp.ret (.inl (IntKind.i64.wrap (i1+1),setF bx2 i1.toNat (IntKind.i64.wrap ((getF bx2 i1)+(getF b1 i1))))))))) else (Comp.ret (.inr bx2))
def Zi4(a1:(Fin 8→Int))(b1:(Fin 8→Int)):Comp ((Fin 8→Int)×Int):=
 Comp.next (ZlX b1 (0,a1)) fun ov=>match ov with|bx1=>ZfW bx1
def Zed(v5_1:(List Int)):Comp (List Int):=
 Comp.bind (Zat v5_1) fun yv1=>Comp.ret yv1
def Zee(a1_1:(List Int))(v6_1:Int)(v5_3:(List Int))(v7_1:Int):Comp (((List Int)×Int)⊕(List Int)):=
 Comp.at' v5_3 (IntKind.i64.wrap (v6_1+(a1_1.length:Int))) fun x1=>Comp.ret (.inl ((v5_3.set (IntKind.i64.wrap (v6_1+(a1_1.length:Int))).toNat (IntKind.u32.wrap v7_1)),IntKind.i64.wrap (v6_1+1)))
def Zj9(a0_1:(List Int))(a1_1:(List Int))(v6_1:Int):((List Int)×Int×Int)→Comp (((List Int)×Int)):=
 Comp.loop fun gs=>match gs with|(v5_4,v7_2,v8_1)=>if v8_1<(a1_1.length:Int) then (Comp.at' a0_1 v6_1 fun x2=>Comp.at' a1_1 v8_1 fun x3=>Comp.at' v5_4 (IntKind.i64.wrap (v6_1+v8_1)) fun x4=>Comp.at' v5_4 (IntKind.i64.wrap (v6_1+v8_1)) fun x5=>Comp.ret (.inl ((v5_4.set (IntKind.i64.wrap (v6_1+v8_1)).toNat (IntKind.u32.wrap (Int.tmod (IntKind.u64.wrap ((IntKind.u64.wrap ((IntKind.u64.wrap ((IntKind.u64.wrap x2)*(IntKind.u64.wrap x3)))+(IntKind.u64.wrap x4)))+v7_2)) 4294967296))),IntKind.u64.wrap (Int.tdiv (IntKind.u64.wrap ((IntKind.u64.wrap ((IntKind.u64.wrap ((IntKind.u64.wrap x2)*(IntKind.u64.wrap x3)))+(IntKind.u64.wrap x4)))+v7_2)) 4294967296),IntKind.i64.wrap (v8_1+1)))) else (Comp.ret (.inr (v5_4,v7_2)))
def Zj8(a0_1:(List Int))(a1_1:(List Int)):((List Int)×Int)→Comp (List Int):=
 Comp.loop fun gs=>match gs with|(v5_2,v6_1)=>if v6_1<(a0_1.length:Int) then (Comp.next (Zj9 a0_1 a1_1 v6_1 (v5_2,0,0)) fun ov=>match ov with|(v5_3,v7_1)=>Zee a1_1 v6_1 v5_3 v7_1) else (Comp.ret (.inr v5_2))
def Zcf(a0_1:(List Int))(a1_1:(List Int)):Comp (List Int):=
 Comp.chk (0≤IntKind.i64.wrap ((a0_1.length:Int)+(a1_1.length:Int))∧(IntKind.i64.wrap ((a0_1.length:Int)+(a1_1.length:Int)))≤1000000) (Comp.next (Zj8 a0_1 a1_1 ((List.replicate (IntKind.i64.wrap ((a0_1.length:Int)+(a1_1.length:Int))).toNat 0),0)) fun ov=>match ov with|v5_1=>Zed v5_1)
def ZcU(a1:Zg)(b1:Zg):Comp Zg:=
 Comp.bind (Zcf a1.mag b1.mag) fun yv1=>Comp.bind (Zas (decide (¬ a1.neg=b1.neg)) yv1) fun yv2=>Comp.ret yv2
def ZaU(l1:(List Int))(i1:Int):Comp Int:=
 if i1<(l1.length:Int) then (Comp.at' l1 i1 fun x1=>Comp.ret (IntKind.u64.wrap x1)) else (Comp.ret 0)
def ZdT(l1:(List Int)):Comp Int:=
 Comp.bind (ZaU l1 1) fun yv1=>Comp.bind (ZaU l1 0) fun yv2=>Comp.ret (IntKind.u64.wrap ((IntKind.u64.wrap (yv1*4294967296))+yv2))
def ZdG(a2:Int):Comp Int:=
 Comp.ret a2
def ZjS:(Int×Int)→Comp Int:=
 Comp.loop fun gs=>match gs with|(a3,b2)=>if 0<b2 then (Comp.chk (b2≠0) (Comp.ret (.inl (b2,Int.tmod a3 b2)))) else (Comp.ret (.inr a3))
def ZfS(a1:Int)(b1:Int):Comp Int:=
 Comp.next (ZjS (a1,b1)) fun ov=>match ov with|a2=>ZdG a2
def Zcp:Comp Int:=
 Comp.ret 0
def Zis(a1:(List Int))(b1:(List Int)):Int→Comp (Int⊕Unit):=
 Comp.loop fun gs=>match gs with|i1=>if 0≤i1 then (Comp.at' a1 i1 fun x1=>Comp.at' b1 i1 fun x2=>if x1<x2 then (Comp.ret (.inr (.inl (-1)))) else (Comp.at' a1 i1 fun x3=>Comp.at' b1 i1 fun x4=>if x4<x3 then (Comp.ret (.inr (.inl 1))) else (Comp.ret (.inl (IntKind.i64.wrap (i1-1)))))) else (Comp.ret (.inr (.inr ())))
def Zad(a1:(List Int))(b1:(List Int)):Comp Int:=
 if (a1.length:Int)<(b1.length:Int) then (Comp.ret (-1)) else (if (b1.length:Int)<(a1.length:Int) then (Comp.ret 1) else (Comp.next (Zis a1 b1 (IntKind.i64.wrap ((a1.length:Int)-1))) fun ov=>match ov with | .inl rv1=>Comp.ret rv1 | .inr ()=>Zcp))
def ZcV(out1:(List Int))(rv1:Int):Comp ((List Int)×Int):=
 Comp.bind (Zat out1) fun yv1=>Comp.ret (yv1,rv1)
def Zi1(a1:(List Int))(d1:Int):((List Int)×Int×Int)→Comp (((List Int)×Int)):=
 Comp.loop fun gs=>match gs with|(out2,rv2,i1)=>if 0≤i1 then (Comp.at' a1 i1 fun x1=>Comp.chk (d1≠0) (Comp.at' out2 i1 fun x2=>Comp.chk (d1≠0) (Comp.ret (.inl ((out2.set i1.toNat (IntKind.u32.wrap (IntKind.u64.wrap (Int.tdiv (IntKind.u64.wrap ((IntKind.u64.wrap (rv2*4294967296))+(IntKind.u64.wrap x1))) d1)))),Int.tmod (IntKind.u64.wrap ((IntKind.u64.wrap (rv2*4294967296))+(IntKind.u64.wrap x1))) d1,IntKind.i64.wrap (i1-1)))))) else (Comp.ret (.inr (out2,rv2)))
def Zhz(a1:(List Int))(d1:Int):Comp ((List Int)×Int):=
 Comp.chk (0≤(a1.length:Int)∧(a1.length:Int)≤1000000) (Comp.next (Zi1 a1 d1 ((List.replicate (a1.length:Int).toNat 0),0,IntKind.i64.wrap ((a1.length:Int)-1))) fun ov=>match ov with|(out1,rv1)=>ZcV out1 rv1)
def Zdm(a0_1:(List Int))(a1_1:(List Int)):Comp ((List Int)×(List Int)):=
 Comp.bind (Zad a0_1 a1_1) fun yv1=>if yv1<0 then (Comp.ret ([],a0_1)) else (if (a1_1.length:Int)=1 then (Comp.at' a1_1 0 fun x1=>Comp.bind (Zhz a0_1 (IntKind.u64.wrap x1)) fun yv2=>Comp.bind (Zcg yv2.2) fun yv3=>Comp.ret (yv2.1,yv3)) else Comp.fail)
def ZdE(a2:(List Int)):Comp (List Int):=
 Comp.ret a2
def ZdF(a3:(List Int))(b2:(List Int))(v17_1:Bool):Comp (((List Int)×(List Int))⊕((List Int)⊕(List Int))):=
 if v17_1=true then (Comp.bind (ZdT a3) fun yv1=>Comp.bind (ZdT b2) fun yv2=>Comp.bind (ZfS yv1 yv2) fun yv3=>Comp.bind (Zcg yv3) fun yv4=>Comp.ret (.inr (.inl yv4))) else (Comp.bind (Zdm a3 b2) fun yv5=>Comp.ret (.inl (b2,yv5.2)))
def ZjR:((List Int)×(List Int))→Comp ((List Int)⊕(List Int)):=
 Comp.loop fun gs=>match gs with|(a3,b2)=>if 0<(b2.length:Int) then (if (a3.length:Int)≤2 then (ZdF a3 b2 (decide ((b2.length:Int)≤2))) else (ZdF a3 b2 false)) else (Comp.ret (.inr (.inr a3)))
def ZfR(a1:(List Int))(b1:(List Int)):Comp (List Int):=
 Comp.next (ZjR (a1,b1)) fun ov=>match ov with | .inl rv1=>Comp.ret rv1 | .inr a2=>ZdE a2
def Zhp(a1:Zg)(b1:Zg):Comp Zg:=
 Comp.bind (ZfR a1.mag b1.mag) fun yv1=>Comp.bind (Zas false yv1) fun yv2=>Comp.ret yv2
def Zeb(out1:(List Int)):Comp (List Int):=
 Comp.bind (Zat out1) fun yv1=>Comp.ret yv1
def ZgA(a1:(List Int))(b1:(List Int)):((List Int)×Int×Int)→Comp (List Int):=
 Comp.loop fun gs=>match gs with|(out2,carry1,i1)=>if i1<(IntKind.i64.wrap ((if (a1.length:Int)<(b1.length:Int) then (b1.length:Int) else (a1.length:Int))+1)) then (Comp.bind (ZaU a1 i1) fun yv2=>Comp.bind (ZaU b1 i1) fun yv3=>Comp.at' out2 i1 fun x1=>Comp.ret (.inl ((out2.set i1.toNat (IntKind.u32.wrap (Int.tmod (IntKind.u64.wrap ((IntKind.u64.wrap (yv2+yv3))+carry1)) 4294967296))),IntKind.u64.wrap (Int.tdiv (IntKind.u64.wrap ((IntKind.u64.wrap (yv2+yv3))+carry1)) 4294967296),IntKind.i64.wrap (i1+1)))) else (Comp.ret (.inr out2))
def ZeK(a1:(List Int))(b1:(List Int)):Comp (List Int):=
 Comp.chk (0≤IntKind.i64.wrap ((if (a1.length:Int)<(b1.length:Int) then (b1.length:Int) else (a1.length:Int))+1)∧(IntKind.i64.wrap ((if (a1.length:Int)<(b1.length:Int) then (b1.length:Int) else (a1.length:Int))+1))≤1000000) (Comp.next (ZgA a1 b1 ((List.replicate (IntKind.i64.wrap ((if (a1.length:Int)<(b1.length:Int) then (b1.length:Int) else (a1.length:Int))+1)).toNat 0),0,0)) fun ov=>match ov with|out1=>Zeb out1)
def Zec(out1:(List Int)):Comp (List Int):=
 Comp.bind (Zat out1) fun yv1=>Comp.ret yv1
def ZgB(a1:(List Int))(b1:(List Int)):((List Int)×Int×Int)→Comp (List Int):=
 Comp.loop fun gs=>match gs with|(out2,borrow1,i1)=>if i1<(a1.length:Int) then (Comp.at' a1 i1 fun x1=>Comp.bind (ZaU b1 i1) fun yv2=>Comp.at' out2 i1 fun x2=>Comp.ret (.inl ((out2.set i1.toNat (IntKind.u32.wrap (Int.tmod (IntKind.u64.wrap ((IntKind.u64.wrap ((IntKind.u64.wrap (4294967296+(IntKind.u64.wrap x1)))-yv2))-borrow1)) 4294967296))),IntKind.u64.wrap (1-(IntKind.u64.wrap (Int.tdiv (IntKind.u64.wrap ((IntKind.u64.wrap ((IntKind.u64.wrap (4294967296+(IntKind.u64.wrap x1)))-yv2))-borrow1)) 4294967296))),IntKind.i64.wrap (i1+1)))) else (Comp.ret (.inr out2))
def Zdu(a1:(List Int))(b1:(List Int)):Comp (List Int):=
 Comp.chk (0≤(a1.length:Int)∧(a1.length:Int)≤1000000) (Comp.next (ZgB a1 b1 ((List.replicate (a1.length:Int).toNat 0),0,0)) fun ov=>match ov with|out1=>Zec out1)
def ZdC(a1:Zg)(b1:Zg)(q1:(List Int))(rv1:(List Int)):Comp (Zg×Zg×Int):=
 Comp.bind (Zas (decide (¬ a1.neg=b1.neg)) q1) fun yv2=>Comp.bind (Zas false rv1) fun yv3=>Comp.ret (yv2,yv3,0)
def ZdD(a1:Zg)(b1:Zg)(yv1:(List Int)×(List Int))(v29_1:Bool):Comp (Zg×Zg×Int):=
 if v29_1=true then Comp.fail else (ZdC a1 b1 yv1.1 yv1.2)
def Ziq(a1:Zg)(b1:Zg):Comp (Zg×Zg×Int):=
 if (b1.mag.length:Int)=0 then Comp.fail else (Comp.bind (Zdm a1.mag b1.mag) fun yv1=>if a1.neg=true then (ZdD a1 b1 yv1 (decide (0<(yv1.2.length:Int)))) else (ZdD a1 b1 yv1 false))
def ZeM(n1:Zg)(g1:Zg):Comp Zg:=
 Comp.bind (Ziq n1 g1) fun yv1=>Comp.ret yv1.1
def Zgm(n1:Zg)(d1:Zg)(bx1:Zg):Comp Zf:=
 Comp.bind (ZeM n1 bx1) fun yv2=>Comp.bind (ZeM d1 bx1) fun yv3=>Comp.ret (Zf.mk yv2 yv3)
def ZdU(n1:Zg)(d1:Zg):Comp Zf:=
 Comp.bind (Zhp n1 d1) fun yv1=>Comp.bind (ZfQ d1) fun yv4=>if yv4<0 then Comp.fail else (Zgm n1 d1 yv1)
def Zd6(a1:Zf)(b1:Zf):Comp Zf:=
 Comp.bind (ZcU a1.num b1.num) fun yv1=>Comp.bind (ZcU a1.den b1.den) fun yv2=>Comp.bind (ZdU yv1 yv2) fun yv3=>Comp.ret yv3
def Zej(out1:(List Zc)):Comp ((List Zc)×Int):=
 Comp.ret (out1,0)
def Zkc(c1:Zf)(m1:(Fin 8→Int))(p1:(List Zc)):((List Zc)×Int)→Comp (((List Zc)×Int)⊕(List Zc)):=
 Comp.loop fun gs=>match gs with|(out2,i1)=>if i1<(p1.length:Int) then (Comp.at' p1 i1 fun x1=>Comp.bind (Zi4 m1 x1.m) fun yv2=>if ¬ yv2.2=0 then Comp.fail else (Comp.at' p1 i1 fun x2=>Comp.bind (Zd6 c1 x2.c) fun yv3=>Comp.chk ((out2++[(Zc.mk yv3 yv2.1)]).length≤small) (Comp.ret (.inl ((out2++[(Zc.mk yv3 yv2.1)]),IntKind.i64.wrap (i1+1)))))) else (Comp.ret (.inr (.inr out2)))
def ZgE(c1:Zf)(m1:(Fin 8→Int))(p1:(List Zc)):Comp ((List Zc)×Int):=
 Comp.bind (ZbB c1) fun yv1=>if yv1=0 then (Comp.ret ([],0)) else (Comp.next (Zkc c1 m1 p1 ([],0)) fun ov=>match ov with | .inl rv1=>Comp.ret rv1 | .inr out1=>Zej out1)
def ZfU:Comp Int:=
 Comp.ret 0
def ZlW(a1:(Fin 8→Int))(b1:(Fin 8→Int)):Int→Comp (Int⊕Unit):=
 Comp.loop fun gs=>match gs with|i1=>if i1<8 then (Comp.chk (0≤i1∧i1<8) (Comp.chk (0≤i1∧i1<8) (if (getF a1 i1)<(getF b1 i1) then (Comp.ret (.inr (.inl (-1)))) else (Comp.chk (0≤i1∧i1<8) (Comp.chk (0≤i1∧i1<8) (if (getF b1 i1)<(getF a1 i1) then (Comp.ret (.inr (.inl 1))) else (Comp.ret (.inl (IntKind.i64.wrap (i1+1)))))))))) else (Comp.ret (.inr (.inr ())))
def ZfE(a1:(Fin 8→Int))(b1:(Fin 8→Int)):Comp Int:=
 Comp.next (ZlW a1 b1 0) fun ov=>match ov with | .inl rv1=>Comp.ret rv1 | .inr ()=>ZfU
def Zho(a1:Zg)(b1:Zg):Comp Zg:=
 if a1.neg=b1.neg then (Comp.bind (ZeK a1.mag b1.mag) fun yv1=>Comp.bind (Zas a1.neg yv1) fun yv2=>Comp.ret yv2) else (Comp.bind (Zad a1.mag b1.mag) fun yv3=>if yv3<0 then (Comp.bind (Zdu b1.mag a1.mag) fun yv4=>Comp.bind (Zas b1.neg yv4) fun yv5=>Comp.ret yv5) else (Comp.bind (Zdu a1.mag b1.mag) fun yv6=>Comp.bind (Zas a1.neg yv6) fun yv7=>Comp.ret yv7))
def Zd5(a1:Zf)(b1:Zf):Comp Zf:=
 Comp.bind (ZcU a1.num b1.den) fun yv1=>Comp.bind (ZcU b1.num a1.den) fun yv2=>Comp.bind (Zho yv1 yv2) fun yv3=>Comp.bind (ZcU a1.den b1.den) fun yv4=>Comp.bind (ZdU yv3 yv4) fun yv5=>Comp.ret yv5
def ZfX(v5_1:(List Zc)):Comp (List Zc):=
 Comp.ret v5_1
def ZfY(a0_1:(List Zc))(a1_1:(List Zc))(v6_2:Int)(v5_4:(List Zc))(v7_2:Int):Comp (((List Zc)×Int×Int)⊕(List Zc)):=
 Comp.at' a0_1 v6_2 fun x1=>Comp.at' a1_1 v7_2 fun x2=>Comp.bind (Zd5 x1.c x2.c) fun yv1=>Comp.bind (ZbB yv1) fun yv2=>if ¬ yv2=0 then (Comp.at' a0_1 v6_2 fun x3=>Comp.chk ((v5_4++[(Zc.mk yv1 x3.m)]).length≤small) (Comp.ret (.inl ((v5_4++[(Zc.mk yv1 x3.m)]),IntKind.i64.wrap (v6_2+1),IntKind.i64.wrap (v7_2+1))))) else (Comp.ret (.inl (v5_4,IntKind.i64.wrap (v6_2+1),IntKind.i64.wrap (v7_2+1))))
def Zcq(a0_1:(List Zc))(a1_1:(List Zc))(v7_1:Int)(v5_3:(List Zc))(v6_2:Int)(v70_1:Bool):Comp (((List Zc)×Int×Int)⊕(List Zc)):=
 if v70_1=true then (Comp.at' a1_1 v7_1 fun x4=>Comp.chk ((v5_3++[x4]).length≤small) (Comp.ret (.inl ((v5_3++[x4]),v6_2,IntKind.i64.wrap (v7_1+1))))) else (ZfY a0_1 a1_1 v6_2 v5_3 v7_1)
def Zcr(a0_1:(List Zc))(a1_1:(List Zc))(v7_1:Int)(v5_3:(List Zc))(v6_2:Int):Comp (((List Zc)×Int×Int)⊕(List Zc)):=
 if v6_2=(a0_1.length:Int) then (Zcq a0_1 a1_1 v7_1 v5_3 v6_2 true) else (Comp.at' a0_1 v6_2 fun x5=>Comp.at' a1_1 v7_1 fun x6=>Comp.bind (ZfE x5.m x6.m) fun yv3=>Zcq a0_1 a1_1 v7_1 v5_3 v6_2 (decide (yv3<0)))
def ZaO(a0_1:(List Zc))(a1_1:(List Zc))(v5_2:(List Zc))(v6_1:Int)(v7_1:Int)(v43_1:Bool):Comp (((List Zc)×Int×Int)⊕(List Zc)):=
 if v43_1=true then (Comp.at' a0_1 v6_1 fun x7=>Comp.chk ((v5_2++[x7]).length≤small) (Comp.ret (.inl ((v5_2++[x7]),IntKind.i64.wrap (v6_1+1),v7_1)))) else (Zcr a0_1 a1_1 v7_1 v5_2 v6_1)
def Zbf(a0_1:(List Zc))(a1_1:(List Zc))(v5_2:(List Zc))(v6_1:Int)(v7_1:Int):Comp (((List Zc)×Int×Int)⊕(List Zc)):=
 if v7_1=(a1_1.length:Int) then (ZaO a0_1 a1_1 v5_2 v6_1 v7_1 true) else (if v6_1<(a0_1.length:Int) then (Comp.at' a0_1 v6_1 fun x8=>Comp.at' a1_1 v7_1 fun x9=>Comp.bind (ZfE x8.m x9.m) fun yv4=>ZaO a0_1 a1_1 v5_2 v6_1 v7_1 (decide (0<yv4))) else (ZaO a0_1 a1_1 v5_2 v6_1 v7_1 false))
def ZlY(a0_1:(List Zc))(a1_1:(List Zc)):((List Zc)×Int×Int)→Comp (List Zc):=
 Comp.loop fun gs=>match gs with|(v5_2,v6_1,v7_1)=>if v6_1<(a0_1.length:Int) then (Zbf a0_1 a1_1 v5_2 v6_1 v7_1) else (if v7_1<(a1_1.length:Int) then (Zbf a0_1 a1_1 v5_2 v6_1 v7_1) else (Comp.ret (.inr v5_2)))
def ZcX(a0_1:(List Zc))(a1_1:(List Zc)):Comp (List Zc):=
 Comp.next (ZlY a0_1 a1_1 ([],0,0)) fun ov=>match ov with|v5_1=>ZfX v5_1
def Zf1(out1:(List Zc)):Comp ((List Zc)×Int):=
 Comp.ret (out1,0)
def ZlZ(p1:(List Zc))(q1:(List Zc)):((List Zc)×Int)→Comp (((List Zc)×Int)⊕(List Zc)):=
 Comp.loop fun gs=>match gs with|(out2,i1)=>if i1<(p1.length:Int) then (Comp.at' p1 i1 fun x1=>Comp.at' p1 i1 fun x2=>Comp.bind (ZgE x1.c x2.m q1) fun yv1=>if ¬ yv1.2=0 then Comp.fail else (Comp.bind (ZcX out2 yv1.1) fun yv4=>Comp.ret (.inl (yv4,IntKind.i64.wrap (i1+1))))) else (Comp.ret (.inr (.inr out2)))
def Zlp(p1:(List Zc))(q1:(List Zc)):Comp ((List Zc)×Int):=
 Comp.next (ZlZ p1 q1 ([],0)) fun ov=>match ov with | .inl rv1=>Comp.ret rv1 | .inr out1=>Zf1 out1
def Zkb(p1:(List Zc))(q1:(List Zc)):Comp (List Zc):=
 Comp.bind (Zlp p1 q1) fun yv1=>Comp.ret yv1.1
def ZgD(c1:Zf):Comp (List Zc):=
 Comp.bind (ZbB c1) fun yv1=>if yv1=0 then Comp.fail else (Comp.ret [(Zc.mk c1 (fun _=>0))])
def Zi6(n1:Int):Comp (List Zc):=
 Comp.bind (Z5 n1) fun yv1=>Comp.bind (ZgD yv1) fun yv2=>Comp.ret yv2
def ZeO(c1:Zf)(p1:(List Zc)):Comp (List Zc):=
 Comp.bind (ZgE c1 (fun _=>0) p1) fun yv1=>Comp.ret yv1.1
def Zi8(p1:(List Zc))(q1:(List Zc)):Comp (List Zc):=
 Comp.bind (Z5 (-1)) fun yv1=>Comp.bind (ZeO yv1 q1) fun yv2=>Comp.bind (ZcX p1 yv2) fun yv3=>Comp.ret yv3
def Zb5(c1:Int):Comp Bool:=
 if 48≤c1 then (if c1≤57 then (Comp.ret true) else (Comp.ret (decide (c1=95)))) else (Comp.ret (decide (c1=95)))
def ZaK:Comp Bool:=
 Comp.ret true
def ZQ(s1:ByteArray)(pos1:Nat)(letter1:Bool):Comp (Nat⊕(Bool⊕Unit)):=
 if letter1=true then (Comp.ret (.inl (pos1+(Utf8.decode s1 pos1).2))) else (if (pos1:Int)=0 then (Comp.ret (.inr (.inl false))) else (Comp.bind (Zb5 ((Utf8.decode s1 pos1).1:Int)) fun yv1=>if (!yv1)=true then (Comp.ret (.inr (.inl false))) else (Comp.ret (.inl (pos1+(Utf8.decode s1 pos1).2)))))
def Zil(s1:ByteArray):Nat→Comp (Bool⊕Unit):=
 Comp.loop fun gs=>match gs with|pos1=>if pos1<s1.size then (if 65≤((Utf8.decode s1 pos1).1:Int) then (if ((Utf8.decode s1 pos1).1:Int)≤90 then (ZQ s1 pos1 true) else (if 97≤((Utf8.decode s1 pos1).1:Int) then (ZQ s1 pos1 (decide (((Utf8.decode s1 pos1).1:Int)≤122))) else (ZQ s1 pos1 false))) else (if 97≤((Utf8.decode s1 pos1).1:Int) then (ZQ s1 pos1 (decide (((Utf8.decode s1 pos1).1:Int)≤122))) else (ZQ s1 pos1 false))) else (Comp.ret (.inr (.inr ())))
def ZeG(s1:ByteArray):Comp Bool:=
 Comp.next (Zil s1 0) fun ov=>match ov with | .inl rv1=>Comp.ret rv1 | .inr ()=>ZaK
def Zb4(s1:ByteArray):Comp Bool:=
 if (s1.size:Int)<1 then (Comp.ret false) else (if 12<(s1.size:Int) then (Comp.ret false) else (ZeG s1))
def ZdO(a1:Zg):Comp Bool:=
 if (a1.mag.length:Int)=0 then Comp.fail else (Comp.at' a1.mag (IntKind.i64.wrap ((a1.mag.length:Int)-1)) fun x1=>Comp.ret (decide (¬ x1=0)))
def ZbF(a1:Zg):Comp Int:=
 if (a1.mag.length:Int)=0 then Comp.fail else (if a1.neg=true then (Comp.ret (-1)) else (Comp.ret 1))
def Za7(a1:Zg):Comp Bool:=
 if a1.neg=true then (Comp.ret false) else (if (a1.mag.length:Int)=1 then (Comp.at' a1.mag 0 fun x1=>Comp.ret (decide (x1=1))) else (Comp.ret false))
def ZcH(a1:(List Int))(n1:Int):Comp (List Int):=
 Comp.chk (0≤(0:Int)∧(0:Int)≤n1∧n1≤(a1.length:Int)) (Comp.ret ((a1.take n1.toNat).drop (0:Int).toNat))
def ZiE(a1:(List Int)):Int→Comp Int:=
 Comp.loop fun gs=>match gs with|n2=>if 0<n2 then (Comp.at' a1 (IntKind.i64.wrap (n2-1)) fun x1=>if x1=0 then (Comp.ret (.inl (IntKind.i64.wrap (n2-1)))) else (Comp.ret (.inr n2))) else (Comp.ret (.inr n2))
def ZbH(a1:(List Int)):Comp (List Int):=
 Comp.next (ZiE a1 (a1.length:Int)) fun ov=>match ov with|n1=>ZcH a1 n1
def ZdP(a1:(List Int)):Comp (List Int):=
 Comp.chk (([]++a1).length≤small) (Comp.ret ([]++a1))
def Zgt(m1:Int):Comp (List Int):=
 Comp.bind (ZbH [IntKind.u32.wrap m1,IntKind.u32.wrap (Int.fdiv m1 (2 ^ (min (32:Int).toNat IntKind.u64.bits)))]) fun yv1=>Comp.ret yv1
def Zc9(neg1:Bool)(mag1:(List Int)):Comp Zg:=
 Comp.bind (ZbH mag1) fun yv1=>if (yv1.length:Int)=0 then Comp.fail else (Comp.ret (Zg.mk neg1 yv1))
def ZbG:Comp Int:=
 Comp.ret 0
def Zg4(a1:(List Int))(b1:(List Int)):Int→Comp (Int⊕Unit):=
 Comp.loop fun gs=>match gs with|i1=>if 0≤i1 then (Comp.at' a1 i1 fun x1=>Comp.at' b1 i1 fun x2=>if ¬ x1=x2 then (Comp.at' a1 i1 fun x3=>Comp.at' b1 i1 fun x4=>if x3<x4 then (Comp.ret (.inr (.inl (-1)))) else (Comp.ret (.inr (.inl 1)))) else (Comp.ret (.inl (IntKind.i64.wrap (i1-1))))) else (Comp.ret (.inr (.inr ())))
def ZcG(a1:(List Int))(b1:(List Int)):Comp Int:=
 if ¬ (a1.length:Int)=(b1.length:Int) then Comp.fail else (Comp.next (Zg4 a1 b1 (IntKind.i64.wrap ((a1.length:Int)-1))) fun ov=>match ov with | .inl rv1=>Comp.ret rv1 | .inr ()=>ZbG)
def Zc8(x1:(List Int)):Comp Zg:=
 Comp.bind (Zc9 false x1) fun yv5=>Comp.ret yv5
def Zjd:((List Int)×(List Int)×Zg)→Comp (Zg⊕((List Int)×Zg)):=
 Comp.loop fun gs=>match gs with|(x2,yv6,bx2)=>if 0<(yv6.length:Int) then Comp.fail else (Comp.ret (.inr (.inr (x2,bx2))))
def ZhP(a1:Zg)(b1:Zg):Comp Zg:=
 Comp.bind (ZbH a1.mag) fun yv1=>Comp.bind (ZdP yv1) fun yv2=>Comp.bind (ZbH b1.mag) fun yv3=>Comp.bind (ZdP yv3) fun yv4=>Comp.next (Zjd (yv2,yv4,(Zg.mk false []))) fun ov=>match ov with | .inl rv1=>Comp.ret rv1 | .inr (x1,bx1)=>Zc8 x1
def ZdR(a1:Zf):Comp Bool:=
 Comp.bind (Za7 a1.den) fun yv1=>match yv1 with|false=>(Comp.bind (ZhP a1.num a1.den) fun yv2=>Comp.bind (Za7 yv2) fun yv3=>Comp.ret yv3)|true=>(Comp.ret true)
def ZbV(a1:Zf):Comp Bool:=
 Comp.bind (ZdO a1.num) fun yv4=>match yv4 with|false=>(Comp.ret false)|true=>(Comp.bind (ZdO a1.den) fun yv5=>match yv5 with|false=>(Comp.ret false)|true=>(Comp.bind (ZbF a1.den) fun yv6=>if yv6≤0 then Comp.fail else (ZdR a1)))
def Zaw(a1:Zf):Comp Int:=
 Comp.bind (ZbF a1.num) fun yv1=>Comp.ret yv1
def ZbX:Comp Bool:=
 Comp.ret true
def Zhx(m1:(Fin 8→Int)):Int→Comp (Bool⊕Unit):=
 Comp.loop fun gs=>match gs with|v6_1=>if v6_1<8 then (Comp.chk (0≤v6_1∧v6_1<8) (if (getF m1 v6_1)<0 then (Comp.ret (.inr (.inl false))) else (if 65535<(getF m1 v6_1) then Comp.fail else (Comp.ret (.inl (IntKind.i64.wrap (v6_1+1))))))) else (Comp.ret (.inr (.inr ())))
def Zdd(m1:(Fin 8→Int)):Comp Bool:=
 Comp.next (Zhx m1 0) fun ov=>match ov with | .inl rv1=>Comp.ret rv1 | .inr ()=>ZbX
def Zbw:Comp Bool:=
 Comp.ret true
def ZaL(p1:(List Zc))(v7_1:Int)(x1:Zc):Comp (Int⊕(Bool⊕Unit)):=
 if 0<v7_1 then (Comp.at' p1 (IntKind.i64.wrap (v7_1-1)) fun x2=>Comp.bind (ZbJ x2.m x1.m) fun yv1=>if yv1≤0 then Comp.fail else (Comp.ret (.inl (IntKind.i64.wrap (v7_1+1))))) else (Comp.ret (.inl (IntKind.i64.wrap (v7_1+1))))
def Zgx(p1:(List Zc)):Int→Comp (Bool⊕Unit):=
 Comp.loop fun gs=>match gs with|v7_1=>if v7_1<(p1.length:Int) then (Comp.at' p1 v7_1 fun x1=>Comp.bind (ZbV x1.c) fun yv2=>match yv2 with|false=>(Comp.ret (.inr (.inl false)))|true=>(Comp.bind (Zaw x1.c) fun yv3=>if yv3=0 then (Comp.ret (.inr (.inl false))) else (Comp.bind (Zdd x1.m) fun yv4=>if (!yv4)=true then Comp.fail else (ZaL p1 v7_1 x1)))) else (Comp.ret (.inr (.inr ())))
def Zbm(p1:(List Zc)):Comp Bool:=
 Comp.next (Zgx p1 0) fun ov=>match ov with | .inl rv1=>Comp.ret rv1 | .inr ()=>Zbw
def Zbv(s1:Int):Comp Int:=
 Comp.ret s1
def Zgw(m1:(Fin 8→Int)):(Int×Int)→Comp Int:=
 Comp.loop fun gs=>match gs with|(s2,v7_1)=>if v7_1<8 then (Comp.chk (0≤v7_1∧v7_1<8) (if 0<(getF m1 v7_1) then (Comp.chk (0≤v7_1) (Comp.ret (.inl (IntKind.u8.wrap (BitVec.ofInt IntKind.u8.bits s2 ||| BitVec.ofInt IntKind.u8.bits (IntKind.u8.wrap (1*2 ^ (min (v7_1).toNat IntKind.u8.bits)))).toNat,IntKind.i64.wrap (v7_1+1))))) else (Comp.ret (.inl (s2,IntKind.i64.wrap (v7_1+1)))))) else (Comp.ret (.inr s2))
def Zb9(m1:(Fin 8→Int)):Comp Int:=
 Comp.next (Zgw m1 (0,0)) fun ov=>match ov with|s1=>Zbv s1
def ZbM(s1:Int):Comp Int:=
 Comp.ret s1
def Zhg(p1:(List Zc)):(Int×Int)→Comp Int:=
 Comp.loop fun gs=>match gs with|(s2,v8_1)=>if v8_1<(p1.length:Int) then (Comp.at' p1 v8_1 fun x1=>Comp.bind (Zb9 x1.m) fun yv1=>Comp.ret (.inl (IntKind.u8.wrap (BitVec.ofInt IntKind.u8.bits s2 ||| BitVec.ofInt IntKind.u8.bits yv1).toNat,IntKind.i64.wrap (v8_1+1)))) else (Comp.ret (.inr s2))
def ZaT(p1:(List Zc)):Comp Int:=
 Comp.next (Zhg p1 (0,0)) fun ov=>match ov with|s1=>ZbM s1
def ZbK(d1:Int):Comp Int:=
 Comp.ret d1
def Zhb(m1:(Fin 8→Int)):(Int×Int)→Comp Int:=
 Comp.loop fun gs=>match gs with|(d2,v7_1)=>if v7_1<8 then (Comp.chk (0≤v7_1∧v7_1<8) (Comp.ret (.inl (IntKind.i64.wrap (d2+(getF m1 v7_1)),IntKind.i64.wrap (v7_1+1))))) else (Comp.ret (.inr d2))
def ZcK(m1:(Fin 8→Int)):Comp Int:=
 Comp.next (Zhb m1 (0,0)) fun ov=>match ov with|d1=>ZbK d1
def Zbl(d1:Int):Comp Int:=
 Comp.ret d1
def Zgg(p1:(List Zc)):(Int×Int)→Comp Int:=
 Comp.loop fun gs=>match gs with|(d2,v8_1)=>if v8_1<(p1.length:Int) then (Comp.at' p1 v8_1 fun x1=>Comp.bind (ZcK x1.m) fun yv1=>Comp.ret (.inl (if d2<yv1 then yv1 else d2,IntKind.i64.wrap (v8_1+1)))) else (Comp.ret (.inr d2))
def Za2(p1:(List Zc)):Comp Int:=
 Comp.next (Zgg p1 ((-1),0)) fun ov=>match ov with|d1=>Zbl d1
def ZfA(p1:(List Zc))(n1:Int):Comp Bool:=
 Comp.bind (Zbm p1) fun yv1=>match yv1 with|false=>(Comp.ret false)|true=>(Comp.bind (ZaT p1) fun yv2=>Comp.chk (0≤n1) (if (Int.fdiv (IntKind.i64.wrap yv2) (2 ^ (min (n1).toNat IntKind.i64.bits)))=0 then (Comp.bind (Za2 p1) fun yv3=>Comp.ret (decide (yv3≤12))) else (Comp.ret false)))
def ZcP:Comp Bool:=
 Comp.ret true
def ZcQ(v51_1:Int)(mp2:(List (Int×Bool))):Comp ((Int×(List (Int×Bool)))⊕(Bool⊕Unit)):=
 Comp.ret (.inl (IntKind.i64.wrap (v51_1+1),mp2))
def Zbz(a0_1:Zb)(v60_1:Int)(mp3:(List (Int×Bool)))(x2:Za):Comp ((Int×(List (Int×Bool)))⊕(Bool⊕((List (Int×Bool))))):=
 Comp.chk (((Lit.int IntKind.i64 x2.id).wf=true)∧(mput mp3 x2.id true).length≤small) (Comp.bind (ZfA x2.p (a0_1.vars.length:Int)) fun yv1=>if (!yv1)=true then Comp.fail else (Comp.ret (.inl (IntKind.i64.wrap (v60_1+1),(mput mp3 x2.id true)))))
def Ze5(a0_1:Zb)(x1:(List Za)):(Int×(List (Int×Bool)))→Comp (Bool⊕((List (Int×Bool)))):=
 Comp.loop fun gs=>match gs with|(v60_1,mp3)=>if v60_1<(x1.length:Int) then (Comp.at' x1 v60_1 fun x2=>if x2.id<1 then (Comp.ret (.inr (.inl false))) else (if a0_1.next≤x2.id then (Comp.ret (.inr (.inl false))) else (Comp.chk ((Lit.int IntKind.i64 x2.id).wf=true) (if ((mget mp3 x2.id).getD false)=true then (Comp.ret (.inr (.inl false))) else (if 0<v60_1 then (Comp.at' x1 (IntKind.i64.wrap (v60_1-1)) fun x3=>if x2.id≤x3.id then Comp.fail else (Zbz a0_1 v60_1 mp3 x2)) else (Zbz a0_1 v60_1 mp3 x2)))))) else (Comp.ret (.inr (.inr mp3)))
def ZiT(a0_1:Zb):(Int×(List (Int×Bool)))→Comp (Bool⊕Unit):=
 Comp.loop fun gs=>match gs with|(v51_1,mp1)=>if v51_1<([a0_1.eqs,a0_1.neqs].length:Int) then (Comp.at' [a0_1.eqs,a0_1.neqs] v51_1 fun x1=>if 12<(x1.length:Int) then Comp.fail else (Comp.next (Ze5 a0_1 x1 (0,mp1)) fun ov=>match ov with | .inl rv2=>Comp.ret (.inr (.inl rv2)) | .inr mp2=>ZcQ v51_1 mp2)) else (Comp.ret (.inr (.inr ())))
def ZbA(a0_1:Zb):Comp Bool:=
 Comp.next (ZiT a0_1 (0,[])) fun ov=>match ov with | .inl rv1=>Comp.ret rv1 | .inr ()=>ZcP
def ZiU(a0_1:Zb):(Int×(List (ByteArray×Bool)))→Comp (Bool⊕Unit):=
 Comp.loop fun gs=>match gs with|(v29_1,mp4)=>if v29_1<(a0_1.vars.length:Int) then (Comp.at' a0_1.vars v29_1 fun x4=>Comp.bind (Zb4 x4) fun yv2=>match yv2 with|false=>(Comp.ret (.inr (.inl false)))|true=>(Comp.chk (x4.size≤1000000) (if ((mget mp4 x4).getD false)=true then (Comp.ret (.inr (.inl false))) else (Comp.chk ((x4.size≤1000000)∧(mput mp4 x4 true).length≤small) (Comp.ret (.inl (IntKind.i64.wrap (v29_1+1),(mput mp4 x4 true)))))))) else (Comp.ret (.inr (.inr ())))
def Ze6(a0_1:Zb):Comp Bool:=
 Comp.next (ZiU a0_1 (0,[])) fun ov=>match ov with | .inl rv3=>Comp.ret rv3 | .inr ()=>ZbA a0_1
def Zba(a0_1:Zb):Comp Bool:=
 if 4<(a0_1.vars.length:Int) then (Comp.ret false) else (if a0_1.next<1 then (Comp.ret false) else (if 1000000<a0_1.next then (Comp.ret false) else (Ze6 a0_1)))
def Zdp(name1:ByteArray):Comp Bool:=
 Comp.bind (Zba (Zb.mk [name1] [] [] 1)) fun yv1=>Comp.ret yv1
def Zah:Comp Int:=
 Comp.ret (-1)
def ZcS(s1:(List ByteArray))(v1:ByteArray):Int→Comp (Int⊕Unit):=
 Comp.loop fun gs=>match gs with|v8_1=>if v8_1<(s1.length:Int) then (Comp.at' s1 v8_1 fun x1=>if v1=x1 then (Comp.ret (.inr (.inl v8_1))) else (Comp.ret (.inl (IntKind.i64.wrap (v8_1+1))))) else (Comp.ret (.inr (.inr ())))
def Z8(s1:(List ByteArray))(v1:ByteArray):Comp Int:=
 Comp.next (ZcS s1 v1 0) fun ov=>match ov with | .inl rv1=>Comp.ret rv1 | .inr ()=>Zah
def Zaf(s1:(List ByteArray))(v1:ByteArray):Comp Bool:=
 Comp.bind (Z8 s1 v1) fun yv1=>Comp.ret (decide (0≤yv1))
def ZdM:Comp Int:=
 Comp.ret 0
def Zj0(l1:(List (Unit→Comp Int))):Int→Comp (Int⊕Unit):=
 Comp.loop fun gs=>match gs with|v8_1=>if v8_1<(l1.length:Int) then (Comp.at' l1 v8_1 fun x1=>Comp.bind (x1 ()) fun yv1=>if ¬ yv1=0 then (Comp.ret (.inr (.inl yv1))) else (Comp.ret (.inl (IntKind.i64.wrap (v8_1+1))))) else (Comp.ret (.inr (.inr ())))
def Zy(l1:(List (Unit→Comp Int))):Comp Int:=
 Comp.next (Zj0 l1 0) fun ov=>match ov with | .inl rv1=>Comp.ret rv1 | .inr ()=>ZdM
def Zb7(bx1:(Fin 8→Int)):Comp (Fin 8→Int):=
 Comp.ret bx1
def Zh6:(Int×(Fin 8→Int))→Comp (Fin 8→Int):=
 Comp.loop fun gs=>match gs with|(v2_1,bx2)=>if v2_1<8 then (Comp.chk (0≤v2_1∧v2_1<8) (Comp.ret (.inl (IntKind.i64.wrap (v2_1+1),setF bx2 v2_1.toNat v2_1)))) else (Comp.ret (.inr bx2))
def Zbr:Comp (Fin 8→Int):=
 Comp.next (Zh6 (0,(fun _=>0))) fun ov=>match ov with|bx1=>Zb7 bx1
def Zdw(x4:Int)(n3:Int):Comp Int:=
 Comp.chk (0≤(IntKind.u8.wrap x4:Int)∧(IntKind.u8.wrap x4)<(ZeF.size:Int)) (Comp.ret (IntKind.i64.wrap (n3+(IntKind.i64.wrap (byteAt ZeF (IntKind.u8.wrap x4))))))
def Zdx(x3:Int)(n2:Int):Comp Int:=
 if 256≤x3 then Comp.fail else (Zdw x3 n2)
def Zdy(x2:Int)(n1:Int):Comp Int:=
 if 65536≤x2 then Comp.fail else (Zdx x2 n1)
def ZeZ(x1:Int):Comp Int:=
 if 4294967296≤x1 then Comp.fail else (Zdy x1 0)
def Zb3(x1:Int):Comp Int:=
 Comp.bind (ZeZ x1) fun yv1=>Comp.ret yv1
def ZD(x1:(List Zc)):Comp (List Zc):=
 Comp.bind (Zb3 (IntKind.u64.wrap (x1.length:Int))) fun yv1=>Comp.bind (ZW x1 0 (x1.length:Int) yv1) fun yv2=>Comp.ret yv2
def Zbn(rv1:(List Zc)):Comp (List Zc):=
 Comp.bind (ZD rv1) fun yv1=>Comp.ret yv1
def Zgh:((List Zc)×List ((Fin 8→Int)×Zf))→Comp (List Zc):=
 Comp.loop fun gs=>match gs with|(rv2,R1)=>Comp.pick R1 (Comp.ret (.inr rv2)) fun q1 R2=>Comp.bind (Zaw q1.2) fun yv2=>if ¬ yv2=0 then (Comp.chk ((rv2++[(Zc.mk q1.2 q1.1)]).length≤small) (Comp.ret (.inl ((rv2++[(Zc.mk q1.2 q1.1)]),R2)))) else (Comp.ret (.inl (rv2,R2)))
def ZbY(terms1:(List ((Fin 8→Int)×Zf))):Comp (List Zc):=
 Comp.chk (0≤(terms1.length:Int)∧(terms1.length:Int)≤1000000) (Comp.next (Zgh (([]:List Zc),terms1)) fun ov=>match ov with|rv1=>Zbn rv1)
def Za5(mp1:(List ((Fin 8→Int)×Zf))):Comp ((List Zc)×Int):=
 Comp.bind (ZbY mp1) fun yv1=>Comp.ret (yv1,0)
def Za6(v36_1:Int)(mp2:(List ((Fin 8→Int)×Zf)))(x1:Zc)(bx1:(Fin 8→Int)):Comp ((Int×(List ((Fin 8→Int)×Zf)))⊕(((List ((Fin 8→Int)×Zf))))):=
 Comp.chk ((∀ i,(Lit.int IntKind.i64 (bx1 i)).wf=true)∧(mput mp2 bx1 x1.c).length≤small) (Comp.ret (.inl (IntKind.i64.wrap (v36_1+1),(mput mp2 bx1 x1.c))))
def Zcl(perm1:(Fin 8→Int))(x1:Zc):(Int×(Fin 8→Int))→Comp (Fin 8→Int):=
 Comp.loop fun gs=>match gs with|(v42_1,bx2)=>if v42_1<8 then (Comp.chk (0≤v42_1∧v42_1<8) (Comp.chk (0≤v42_1∧v42_1<8) (Comp.chk (0≤getF perm1 v42_1∧(getF perm1 v42_1)<8) (Comp.ret (.inl (IntKind.i64.wrap (v42_1+1),setF bx2 ((getF perm1 v42_1).toNat) (getF x1.m v42_1))))))) else (Comp.ret (.inr bx2))
def ZfL(p1:(List Zc))(perm1:(Fin 8→Int)):(Int×(List ((Fin 8→Int)×Zf)))→Comp (((List ((Fin 8→Int)×Zf)))):=
 Comp.loop fun gs=>match gs with|(v36_1,mp2)=>if v36_1<(p1.length:Int) then (Comp.at' p1 v36_1 fun x1=>Comp.next (Zcl perm1 x1 (0,(fun _=>0))) fun ov=>match ov with|bx1=>Za6 v36_1 mp2 x1 bx1) else (Comp.ret (.inr mp2))
def Zaq(p1:(List Zc))(perm1:(Fin 8→Int)):Comp ((List Zc)×Int):=
 Comp.next (ZfL p1 perm1 (0,[])) fun ov=>match ov with|mp1=>Za5 mp1
def ZfM(perm1:(Fin 8→Int)):(Int×(Fin 8→Bool))→Comp (((List Zc)×Int)⊕Unit):=
 Comp.loop fun gs=>match gs with|(v16_1,bx3)=>if v16_1<8 then (Comp.chk (0≤v16_1∧v16_1<8) (if (getF perm1 v16_1)<0 then (Comp.ret (.inr (.inl ([],1)))) else (if 8≤(getF perm1 v16_1) then (Comp.ret (.inr (.inl ([],1)))) else (Comp.chk (0≤getF perm1 v16_1∧(getF perm1 v16_1)<8) (if (getF bx3 (getF perm1 v16_1))=true then Comp.fail else (Comp.chk (0≤getF perm1 v16_1∧(getF perm1 v16_1)<8) (Comp.ret (.inl (IntKind.i64.wrap (v16_1+1),setF bx3 ((getF perm1 v16_1).toNat) true))))))))) else (Comp.ret (.inr (.inr ())))
def ZbL(p1:(List Zc))(perm1:(Fin 8→Int)):Comp ((List Zc)×Int):=
 Comp.next (ZfM perm1 (0,(fun _=>false))) fun ov=>match ov with | .inl rv1=>Comp.ret rv1 | .inr ()=>Zaq p1 perm1
def ZeX(q1:Za)(cap1:(Fin 8→Int)):Comp Za:=
 Comp.bind (ZbL q1.p cap1) fun yv1=>Comp.ret (Za.mk q1.id yv1.1)
def ZN(rv1:(List Za)):Comp (List Za):=
 Comp.ret rv1
def Za1(l1:(List Za))(cap1:(Fin 8→Int)):((List Za)×Int)→Comp (List Za):=
 Comp.loop fun gs=>match gs with|(rv2,v13_1)=>if v13_1<(l1.length:Int) then (Comp.at' l1 v13_1 fun x1=>Comp.bind (ZeX x1 cap1) fun yv1=>Comp.at' rv2 v13_1 fun x2=>Comp.ret (.inl ((rv2.set v13_1.toNat yv1),IntKind.i64.wrap (v13_1+1)))) else (Comp.ret (.inr rv2))
def ZI(l1:(List Za))(cap1:(Fin 8→Int)):Comp (List Za):=
 Comp.chk (0≤(l1.length:Int)∧(l1.length:Int)≤1000000) (Comp.next (Za1 l1 cap1 ((List.replicate (l1.length:Int).toNat (Za.mk 0 [])),0)) fun ov=>match ov with|rv1=>ZN rv1)
def ZbE(s1:Zb)(perm1:(Fin 8→Int)):Comp Zb:=
 Comp.bind (ZI s1.eqs perm1) fun yv1=>Comp.bind (ZI s1.neqs perm1) fun yv2=>Comp.ret (Zb.mk s1.vars yv1 yv2 s1.next)
def ZK(s1:(List ByteArray)):Comp (List ByteArray):=
 Comp.nilCase s1 (Comp.ret []) (Comp.chk (([]++s1).length≤small) (Comp.ret ([]++s1)))
def ZaG(cap1:Int):Comp Bool:=
 Comp.ret (decide (cap1<4))
def Zk(cap1:(Unit→Comp Bool))(cap2:Int):Comp Int:=
 Comp.bind (cap1 ()) fun yv1=>if yv1=true then (Comp.ret 0) else (Comp.ret cap2)
def ZG(ev1:Int)(holds1:(Unit→Comp Bool)):Comp (Unit→Comp Int):=
 Comp.ret (fun _=>Zk holds1 ev1)
def Zai(cap1:Zd)(cap2:Int):Comp Bool:=
 if 0≤cap1.at' then (Comp.ret (decide (cap1.at'≤cap2))) else (Comp.ret false)
def ZaH(cap1:Zd)(cap2:Zb):Comp Bool:=
 Comp.bind (Zdp cap1.name) fun yv1=>match yv1 with|false=>(Comp.ret false)|true=>(Comp.bind (Zaf cap2.vars cap1.name) fun yv2=>Comp.ret (!yv2))
def Zc5(s1:Zb)(ev1:Zd)(bx1:(Fin 8→Int)):Comp (Zb×Int):=
 Comp.chk (0≤(s1.vars.length:Int)∧(s1.vars.length:Int)<8) (Comp.bind (ZbE s1 (setF bx1 ((s1.vars.length:Int).toNat) ev1.at')) fun yv6=>Comp.bind (ZK yv6.vars) fun yv7=>Comp.bind (Zbe yv7 ev1.at' [ev1.name]) fun yv9=>Comp.ret ((Zb.mk yv9 yv6.eqs yv6.neqs yv6.next),0))
def ZfH(s1:Zb):(Int×(Fin 8→Int))→Comp (Fin 8→Int):=
 Comp.loop fun gs=>match gs with|(i1,bx2)=>if i1<(s1.vars.length:Int) then (Comp.chk (0≤i1∧i1<8) (Comp.ret (.inl (IntKind.i64.wrap (i1+1),setF bx2 i1.toNat (IntKind.i64.wrap (i1+1)))))) else (Comp.ret (.inr bx2))
def Zfs(s1:Zb)(ev1:Zd):Comp (Zb×Int):=
 Comp.bind (ZG 2 (fun _=>ZaG (s1.vars.length:Int))) fun yv1=>Comp.bind (ZG 330 (fun _=>Zai ev1 (s1.vars.length:Int))) fun yv2=>Comp.bind (ZG 331 (fun _=>ZaH ev1 s1)) fun yv3=>Comp.bind (Zy [yv1,yv2,yv3]) fun yv4=>if ¬ yv4=0 then (Comp.ret ((Zb.mk [] [] [] 0),yv4)) else (Comp.bind (Zbr) fun yv5=>Comp.next (ZfH s1 (ev1.at',yv5)) fun ov=>match ov with|bx1=>Zc5 s1 ev1 bx1)
def ZP(newslice1:(List Za)):Comp (List Za):=
 Comp.ret newslice1
def Za8(slices1:(List (List Za))):((List Za)×Int)→Comp (List Za):=
 Comp.loop fun gs=>match gs with|(newslice2,v27_1)=>if v27_1<(slices1.length:Int) then (Comp.at' slices1 v27_1 fun x1=>Comp.chk ((newslice2++x1).length≤small) (Comp.ret (.inl ((newslice2++x1),IntKind.i64.wrap (v27_1+1))))) else (Comp.ret (.inr newslice2))
def ZE(slices1:(List (List Za)))(size1:Int):Comp (List Za):=
 Comp.bind (Zab size1) fun yv1=>Comp.next (Za8 slices1 (yv1,0)) fun ov=>match ov with|newslice1=>ZP newslice1
def Za9(slices1:(List (List Za))):(Int×Int)→Comp Int:=
 Comp.loop fun gs=>match gs with|(size2,v11_1)=>if v11_1<(slices1.length:Int) then (Comp.at' slices1 v11_1 fun x2=>if (IntKind.i64.wrap (size2+(x2.length:Int)))<0 then Comp.fail else (Comp.ret (.inl (IntKind.i64.wrap (size2+(x2.length:Int)),IntKind.i64.wrap (v11_1+1))))) else (Comp.ret (.inr size2))
def ZS(slices1:(List (List Za))):Comp (List Za):=
 Comp.next (Za9 slices1 (0,0)) fun ov=>match ov with|size1=>ZE slices1 size1
def ZX(cap1:Int)(cap2:Zb):Comp Bool:=
 if 0≤cap1 then (Comp.ret (decide (cap1<(cap2.vars.length:Int)))) else (Comp.ret false)
def ZcC(s1:Zb)(i1:Int):Comp (Unit→Comp Bool):=
 Comp.ret (fun _=>ZX i1 s1)
def Zbj:Comp Bool:=
 Comp.ret true
def Zf9(cap2:Zd)(yv1:(List Za)):Int→Comp (Bool⊕Unit):=
 Comp.loop fun gs=>match gs with|v12_1=>if v12_1<(yv1.length:Int) then (Comp.at' yv1 v12_1 fun x1=>Comp.bind (ZaT x1.p) fun yv2=>Comp.chk (0≤cap2.at') (if ¬ (IntKind.u8.wrap (BitVec.ofInt IntKind.u8.bits yv2 &&& BitVec.ofInt IntKind.u8.bits (IntKind.u8.wrap (1*2 ^ (min (cap2.at').toNat IntKind.u8.bits)))).toNat)=0 then (Comp.ret (.inr (.inl false))) else (Comp.ret (.inl (IntKind.i64.wrap (v12_1+1)))))) else (Comp.ret (.inr (.inr ())))
def Zax(cap1:Zb)(cap2:Zd):Comp Bool:=
 Comp.bind (ZS [cap1.eqs,cap1.neqs]) fun yv1=>Comp.next (Zf9 cap2 yv1 0) fun ov=>match ov with | .inl rv1=>Comp.ret rv1 | .inr ()=>Zbj
def ZcB(s1:Zb)(ev1:Zd)(bx1:(Fin 8→Int)):Comp (Zb×Int):=
 Comp.bind (ZbE s1 bx1) fun yv6=>Comp.bind (ZK yv6.vars) fun yv7=>Comp.bind (Zbd yv7 ev1.at' (IntKind.i64.wrap (ev1.at'+1))) fun yv8=>Comp.ret ((Zb.mk yv8 yv6.eqs yv6.neqs yv6.next),0)
def ZeV(s1:Zb):(Int×(Fin 8→Int))→Comp (Fin 8→Int):=
 Comp.loop fun gs=>match gs with|(i1,bx2)=>if i1<(s1.vars.length:Int) then (Comp.chk (0≤i1∧i1<8) (Comp.ret (.inl (IntKind.i64.wrap (i1+1),setF bx2 i1.toNat (IntKind.i64.wrap (i1-1)))))) else (Comp.ret (.inr bx2))
def Zew(s1:Zb)(ev1:Zd):Comp (Zb×Int):=
 Comp.bind (ZcC s1 ev1.at') fun yv1=>Comp.bind (ZG 330 yv1) fun yv2=>Comp.bind (ZG 333 (fun _=>Zax s1 ev1)) fun yv3=>Comp.bind (Zy [yv2,yv3]) fun yv4=>if ¬ yv4=0 then (Comp.ret ((Zb.mk [] [] [] 0),yv4)) else (Comp.bind (Zbr) fun yv5=>Comp.chk (0≤ev1.at'∧ev1.at'<8) (Comp.next (ZeV s1 (IntKind.i64.wrap (ev1.at'+1),setF yv5 ev1.at'.toNat (IntKind.i64.wrap ((s1.vars.length:Int)-1)))) fun ov=>match ov with|bx1=>ZcB s1 ev1 bx1))
def ZaI(cap1:Zb)(cap2:Zd):Comp Bool:=
 Comp.bind (Z8 cap1.vars cap2.name) fun yv1=>Comp.bind (Zdp cap2.name) fun yv2=>match yv2 with|false=>(Comp.ret false)|true=>(if yv1<0 then (Comp.ret true) else (Comp.ret (decide (yv1=cap2.at'))))
def Zft(s1:Zb)(ev1:Zd):Comp (Zb×Int):=
 Comp.bind (ZcC s1 ev1.at') fun yv1=>Comp.bind (ZG 330 yv1) fun yv2=>Comp.bind (ZG 331 (fun _=>ZaI s1 ev1)) fun yv3=>Comp.bind (Zy [yv2,yv3]) fun yv4=>if ¬ yv4=0 then (Comp.ret ((Zb.mk [] [] [] 0),yv4)) else (Comp.bind (ZK s1.vars) fun yv5=>Comp.at' yv5 ev1.at' fun x1=>Comp.ret ((Zb.mk (yv5.set ev1.at'.toNat ev1.name) s1.eqs s1.neqs s1.next),0))
def Zg0(a0_1:Zb)(a1_1:Zd):Comp (Zb×Int):=
 Comp.bind (ZcC a0_1 a1_1.at') fun yv1=>Comp.bind (ZG 330 yv1) fun yv2=>Comp.bind (ZcC a0_1 a1_1.to') fun yv3=>Comp.bind (ZG 330 yv3) fun yv4=>Comp.bind (Zy [yv2,yv4]) fun yv5=>if ¬ yv5=0 then (Comp.ret ((Zb.mk [] [] [] 0),yv5)) else (Comp.bind (Zbr) fun yv6=>Comp.chk (0≤a1_1.at'∧a1_1.at'<8) (Comp.chk (0≤a1_1.to'∧a1_1.to'<8) (Comp.bind (ZbE a0_1 (setF (setF yv6 a1_1.at'.toNat a1_1.to') a1_1.to'.toNat a1_1.at')) fun yv7=>Comp.bind (ZK yv7.vars) fun yv8=>Comp.at' yv8 a1_1.to' fun x1=>Comp.at' yv8 a1_1.at' fun x2=>Comp.at' yv8 a1_1.at' fun x3=>Comp.at' (yv8.set a1_1.at'.toNat x1) a1_1.to' fun x4=>Comp.ret ((Zb.mk ((yv8.set a1_1.at'.toNat x1).set a1_1.to'.toNat x2) yv7.eqs yv7.neqs yv7.next),0))))
def Zdi:Comp (Za×Bool×Bool):=
 Comp.ret ((Za.mk 0 []),false,false)
def Zdj(v17_1:Int)(bx3:Za):Comp ((Int×Za)⊕((Za×Bool×Bool)⊕Za)):=
 Comp.ret (.inl (IntKind.i64.wrap (v17_1+1),bx3))
def ZfO(id1:Int)(v17_1:Int)(x1:(List Za)):(Int×Za)→Comp ((Za×Bool×Bool)⊕Za):=
 Comp.loop fun gs=>match gs with|(v24_1,bx4)=>if v24_1<(x1.length:Int) then (Comp.at' x1 v24_1 fun x2=>if x2.id=id1 then (Comp.ret (.inr (.inl (x2,decide (v17_1=1),true)))) else (Comp.ret (.inl (IntKind.i64.wrap (v24_1+1),bx4)))) else (Comp.ret (.inr (.inr bx4)))
def Zji(s1:Zb)(id1:Int):(Int×Za)→Comp ((Za×Bool×Bool)⊕Za):=
 Comp.loop fun gs=>match gs with|(v17_1,bx2)=>if v17_1<([s1.eqs,s1.neqs].length:Int) then (Comp.at' [s1.eqs,s1.neqs] v17_1 fun x1=>Comp.next (ZfO id1 v17_1 x1 (0,bx2)) fun ov=>match ov with | .inl rv2=>Comp.ret (.inr (.inl rv2)) | .inr bx3=>Zdj v17_1 bx3) else (Comp.ret (.inr (.inr bx2)))
def Za0(s1:Zb)(id1:Int):Comp (Za×Bool×Bool):=
 Comp.next (Zji s1 id1 (0,(Za.mk 0 []))) fun ov=>match ov with | .inl rv1=>Comp.ret rv1 | .inr bx1=>Zdi
def ZV(cap1:Zb)(cap2:Int):Comp Bool:=
 Comp.bind (Za0 cap1 cap2) fun yv1=>Comp.ret yv1.2.2
def ZbD(s1:Zb)(id1:Int):Comp (Unit→Comp Bool):=
 Comp.ret (fun _=>ZV s1 id1)
def Zci(s1:Zb)(neq1:Bool):Comp (List Za):=
 if neq1=true then (Comp.ret s1.neqs) else (Comp.ret s1.eqs)
def Zaj(cap1:(List Zc))(cap2:Zb):Comp Bool:=
 Comp.bind (Zbm cap1) fun yv1=>match yv1 with|false=>(Comp.ret false)|true=>(Comp.bind (ZaT cap1) fun yv2=>Comp.chk (0≤(cap2.vars.length:Int)) (if (Int.fdiv (IntKind.i64.wrap yv2) (2 ^ (min ((cap2.vars.length:Int)).toNat IntKind.i64.bits)))=0 then (Comp.bind (Za2 cap1) fun yv3=>Comp.ret (decide (yv3≤12))) else (Comp.ret false)))
def ZgY(s1:Zb)(p1:(List Zc)):Comp (Unit→Comp Bool):=
 Comp.ret (fun _=>Zaj p1 s1)
def Zb0(s1:Zb)(ev1:Zd):Comp Int:=
 if ev1.id=0 then (Comp.ret s1.next) else (Comp.ret ev1.id)
def Zz(s1:(List Za)):Comp (List Za):=
 Comp.nilCase s1 (Comp.ret []) (Comp.chk (([]++s1).length≤small) (Comp.ret ([]++s1)))
def ZdL(x1:Int):Comp Bool:=
 Comp.ret (decide (¬ x1=x1))
def ZcA(x1:Int)(yv1:Int):Comp Int:=
 Comp.bind (ZdL x1) fun yv2=>Comp.bind (ZdL yv1) fun yv3=>if yv2=true then Comp.fail else (if yv3=true then Comp.fail else (if x1<yv1 then (Comp.ret (-1)) else (if yv1<x1 then (Comp.ret 1) else (Comp.ret 0))))
def ZbS(p1:Za)(id1:Int):Comp Int:=
 Comp.bind (ZcA p1.id id1) fun yv1=>Comp.ret yv1
def Zl(x1:(List Za))(target1:Int)(i1:Int):Comp (Int×Bool):=
 if i1<(x1.length:Int) then (Comp.at' x1 i1 fun x2=>Comp.bind (ZbS x2 target1) fun yv1=>Comp.ret (i1,decide (yv1=0))) else (Comp.ret (i1,false))
def Z3(x1:(List Za))(target1:Int):(Int×Int)→Comp Int:=
 Comp.loop fun gs=>match gs with|(i2,j1)=>if i2<j1 then (Comp.at' x1 (IntKind.i64.wrap (Int.fdiv (IntKind.u64.wrap (IntKind.i64.wrap (i2+j1))) (2 ^ (min (1:Int).toNat IntKind.u64.bits)))) fun x3=>Comp.bind (ZbS x3 target1) fun yv2=>if yv2<0 then (Comp.ret (.inl (IntKind.i64.wrap ((IntKind.i64.wrap (Int.fdiv (IntKind.u64.wrap (IntKind.i64.wrap (i2+j1))) (2 ^ (min (1:Int).toNat IntKind.u64.bits))))+1),j1))) else (Comp.ret (.inl (i2,IntKind.i64.wrap (Int.fdiv (IntKind.u64.wrap (IntKind.i64.wrap (i2+j1))) (2 ^ (min (1:Int).toNat IntKind.u64.bits))))))) else (Comp.ret (.inr i2))
def Zi(x1:(List Za))(target1:Int):Comp (Int×Bool):=
 Comp.next (Z3 x1 target1 (0,(x1.length:Int))) fun ov=>match ov with|i1=>Zl x1 target1 i1
def Zdo(s1:Zb)(q1:Za)(neq1:Bool):Comp Zb:=
 Comp.bind (Zci s1 neq1) fun yv1=>Comp.bind (Zz yv1) fun yv2=>Comp.bind (Zi yv2 q1.id) fun yv3=>Comp.bind (ZT yv2 yv3.1 [q1]) fun yv4=>if neq1=true then (Comp.ret (Zb.mk s1.vars s1.eqs yv4 s1.next)) else (Comp.ret (Zb.mk s1.vars yv4 s1.neqs s1.next))
def Zav(cap1:Zd)(cap2:Zb):Comp Bool:=
 if 0≤cap1.id then (if cap1.id<1000000 then (Comp.bind (ZbD cap2 cap1.id) fun yv1=>Comp.bind (yv1 ()) fun yv2=>Comp.ret (!yv2)) else (Comp.ret false)) else (Comp.ret false)
def ZaM(cap1:Zb)(cap2:Zd):Comp Bool:=
 Comp.bind (Zci cap1 cap2.neq) fun yv1=>if (yv1.length:Int)<12 then (if cap2.id=0 then (Comp.ret (decide (¬ (1000000≤cap1.next)))) else (Comp.ret true)) else (Comp.ret false)
def Zh5(s1:Zb)(ev1:Zd):Comp (Zb×Int):=
 Comp.bind (ZG 332 (fun _=>Zav ev1 s1)) fun yv1=>Comp.bind (ZG 2 (fun _=>ZaM s1 ev1)) fun yv2=>Comp.bind (ZgY s1 ev1.p) fun yv3=>Comp.bind (ZG 320 yv3) fun yv4=>Comp.bind (Zy [yv1,yv2,yv4]) fun yv5=>if ¬ yv5=0 then (Comp.ret ((Zb.mk [] [] [] 0),yv5)) else (Comp.bind (Zb0 s1 ev1) fun yv6=>Comp.bind (Zdo s1 (Za.mk yv6 ev1.p) ev1.neq) fun yv7=>Comp.ret ((Zb.mk yv7.vars yv7.eqs yv7.neqs (if yv7.next<(IntKind.i64.wrap (yv6+1)) then (IntKind.i64.wrap (yv6+1)) else yv7.next)),0))
def ZcE(q1:Za)(cap1:Int):Comp Bool:=
 Comp.ret (decide (q1.id=cap1))
def Zv:Comp Int:=
 Comp.ret (-1)
def Zac(s1:(List Za))(cap1:Int):Int→Comp (Int⊕Unit):=
 Comp.loop fun gs=>match gs with|v8_1=>if v8_1<(s1.length:Int) then (Comp.at' s1 v8_1 fun x1=>Comp.bind (ZcE x1 cap1) fun yv1=>if yv1=true then (Comp.ret (.inr (.inl v8_1))) else (Comp.ret (.inl (IntKind.i64.wrap (v8_1+1))))) else (Comp.ret (.inr (.inr ())))
def Zw(s1:(List Za))(cap1:Int):Comp Int:=
 Comp.next (Zac s1 cap1 0) fun ov=>match ov with | .inl rv1=>Comp.ret rv1 | .inr ()=>Zv
def Zo(s2:(List Za))(i1:Int):Comp (List Za):=
 Comp.chk (0≤i1∧i1≤(s2.length:Int)∧(s2.length:Int)≤(s2.length:Int)) (Comp.chk (0≤(0:Int)∧(0:Int)≤i1∧i1≤((s2.take i1.toNat++List.replicate (s2.length-i1.toNat) (Za.mk 0 [])).length:Int)) (Comp.ret ((s2.take i1.toNat++List.replicate (s2.length-i1.toNat) (Za.mk 0 [])).take i1.toNat)))
def Zaa(cap1:Int):((List Za)×Int×Int)→Comp (((List Za)×Int)):=
 Comp.loop fun gs=>match gs with|(s3,i2,j1)=>if j1<(s3.length:Int) then (Comp.at' s3 j1 fun x1=>Comp.bind (ZcE x1 cap1) fun yv2=>if (!yv2)=true then (Comp.at' s3 i2 fun x2=>Comp.ret (.inl ((s3.set i2.toNat x1),IntKind.i64.wrap (i2+1),IntKind.i64.wrap (j1+1)))) else (Comp.ret (.inl (s3,i2,IntKind.i64.wrap (j1+1))))) else (Comp.ret (.inr (s3,i2)))
def Zr(s1:(List Za))(cap1:Int):Comp (List Za):=
 Comp.bind (Zw s1 cap1) fun yv1=>if yv1=(-1) then (Comp.ret s1) else (Comp.next (Zaa cap1 (s1,yv1,IntKind.i64.wrap (yv1+1))) fun ov=>match ov with|(s2,i1)=>Zo s2 i1)
def ZcD(s1:Zb)(id1:Int):Comp Zb:=
 Comp.bind (Zz s1.eqs) fun yv1=>Comp.bind (Zr yv1 id1) fun yv2=>Comp.bind (Zz s1.neqs) fun yv3=>Comp.bind (Zr yv3 id1) fun yv4=>Comp.ret (Zb.mk s1.vars yv2 yv4 s1.next)
def ZgX(s1:Zb)(ev1:Zd):Comp (Zb×Int):=
 Comp.bind (ZbD s1 ev1.id) fun yv1=>Comp.bind (ZG 332 yv1) fun yv2=>Comp.bind (Zy [yv2]) fun yv3=>if ¬ yv3=0 then (Comp.ret ((Zb.mk [] [] [] 0),yv3)) else (Comp.bind (ZcD s1 ev1.id) fun yv4=>Comp.ret (yv4,0))
def Zfu(q1:Za)(cap1:Zd):Comp Za:=
 if q1.id=cap1.id then (Comp.ret (Za.mk q1.id cap1.p)) else (Comp.ret q1)
def ZR(rv1:(List Za)):Comp (List Za):=
 Comp.ret rv1
def Zbq(l1:(List Za))(cap1:Zd):((List Za)×Int)→Comp (List Za):=
 Comp.loop fun gs=>match gs with|(rv2,v13_1)=>if v13_1<(l1.length:Int) then (Comp.at' l1 v13_1 fun x1=>Comp.bind (Zfu x1 cap1) fun yv1=>Comp.at' rv2 v13_1 fun x2=>Comp.ret (.inl ((rv2.set v13_1.toNat yv1),IntKind.i64.wrap (v13_1+1)))) else (Comp.ret (.inr rv2))
def ZL(l1:(List Za))(cap1:Zd):Comp (List Za):=
 Comp.chk (0≤(l1.length:Int)∧(l1.length:Int)≤1000000) (Comp.next (Zbq l1 cap1 ((List.replicate (l1.length:Int).toNat (Za.mk 0 [])),0)) fun ov=>match ov with|rv1=>ZR rv1)
def Zh7(s1:Zb)(ev1:Zd):Comp (Zb×Int):=
 Comp.bind (ZbD s1 ev1.id) fun yv1=>Comp.bind (ZG 332 yv1) fun yv2=>Comp.bind (ZgY s1 ev1.p) fun yv3=>Comp.bind (ZG 320 yv3) fun yv4=>Comp.bind (Zy [yv2,yv4]) fun yv5=>if ¬ yv5=0 then (Comp.ret ((Zb.mk [] [] [] 0),yv5)) else (Comp.bind (ZL s1.eqs ev1) fun yv6=>Comp.bind (ZL s1.neqs ev1) fun yv7=>Comp.ret ((Zb.mk s1.vars yv6 yv7 s1.next),0))
def ZaC(cap1:Zb)(cap2:Bool):Comp Bool:=
 Comp.bind (Zci cap1 (!cap2)) fun yv1=>Comp.ret (decide ((yv1.length:Int)<12))
def ZgZ(s1:Zb)(ev1:Zd):Comp (Zb×Int):=
 Comp.bind (Za0 s1 ev1.id) fun yv1=>Comp.bind (ZbD s1 ev1.id) fun yv2=>Comp.bind (ZG 332 yv2) fun yv3=>Comp.bind (ZG 2 (fun _=>ZaC s1 yv1.2.1)) fun yv4=>Comp.bind (Zy [yv3,yv4]) fun yv5=>if ¬ yv5=0 then (Comp.ret ((Zb.mk [] [] [] 0),yv5)) else (Comp.bind (ZcD s1 ev1.id) fun yv6=>Comp.bind (Zdo yv6 yv1.1 (!yv1.2.1)) fun yv7=>Comp.ret (yv7,0))
def Zbi(s1:Zb)(ev1:Zd):Comp (Zb×Int):=
 Comp.chk ((Lit.int IntKind.i64 ev1.kind).wf=true) (if (!((mget Zp ev1.kind).isSome))=true then (Comp.ret ((Zb.mk [] [] [] 0),1)) else (if (1:Int)=ev1.kind then (Comp.bind (Zfs s1 ev1) fun yv2=>Comp.ret (yv2.1,yv2.2)) else (if (2:Int)=ev1.kind then (Comp.bind (Zew s1 ev1) fun yv3=>Comp.ret (yv3.1,yv3.2)) else (if (3:Int)=ev1.kind then (Comp.bind (Zft s1 ev1) fun yv4=>Comp.ret (yv4.1,yv4.2)) else (if (4:Int)=ev1.kind then (Comp.bind (Zg0 s1 ev1) fun yv5=>Comp.ret (yv5.1,yv5.2)) else (if (5:Int)=ev1.kind then (Comp.bind (Zh5 s1 ev1) fun yv6=>Comp.ret (yv6.1,yv6.2)) else (if (6:Int)=ev1.kind then (Comp.bind (ZgX s1 ev1) fun yv7=>Comp.ret (yv7.1,yv7.2)) else (if (7:Int)=ev1.kind then (Comp.bind (Zh7 s1 ev1) fun yv8=>Comp.ret (yv8.1,yv8.2)) else (if (8:Int)=ev1.kind then (Comp.bind (ZgZ s1 ev1) fun yv9=>Comp.ret (yv9.1,yv9.2)) else Comp.fail)))))))))
def Zfr(l1:(List Zd))(bx1:Zb):Comp (Zb×Int×Int):=
 Comp.ret (bx1,(l1.length:Int),0)
def Zlh(l1:(List Zd)):(Int×Zb×Zb)→Comp ((Zb×Int×Int)⊕(Zb×Zb)):=
 Comp.loop fun gs=>match gs with|(v13_1,bx3,bx4)=>if v13_1<(l1.length:Int) then (Comp.at' l1 v13_1 fun x1=>Comp.bind (Zbi bx3 x1) fun yv1=>if ¬ yv1.2=0 then (Comp.ret (.inr (.inl ((Zb.mk [] [] [] 0),v13_1,yv1.2)))) else (Comp.ret (.inl (IntKind.i64.wrap (v13_1+1),yv1.1,bx4)))) else (Comp.ret (.inr (.inr (bx3,bx4))))
def Zh4(s1:Zb)(l1:(List Zd)):Comp (Zb×Int×Int):=
 Comp.next (Zlh l1 (0,s1,(Zb.mk [] [] [] 0))) fun ov=>match ov with | .inl rv1=>Comp.ret rv1 | .inr (bx1,bx2)=>Zfr l1 bx1
def Zd1(s1:Zb)(l1:(List Zd)):Comp Zt:=
 Comp.bind (Zh4 s1 l1) fun yv1=>Comp.ret (Zt.mk yv1.1 yv1.2.1 yv1.2.2)
def Zfa:Comp Bool:=
 Comp.ret true
def ZhA(a1:Zg)(b1:Zg):Int→Comp (Bool⊕Unit):=
 Comp.loop fun gs=>match gs with|i1=>if i1<(a1.mag.length:Int) then (Comp.at' a1.mag i1 fun x1=>Comp.at' b1.mag i1 fun x2=>if ¬ x1=x2 then Comp.fail else (Comp.ret (.inl (IntKind.i64.wrap (i1+1))))) else (Comp.ret (.inr (.inr ())))
def Zeg(a1:Zg)(b1:Zg):Comp Bool:=
 if ¬ a1.neg=b1.neg then (Comp.ret false) else (if ¬ (a1.mag.length:Int)=(b1.mag.length:Int) then Comp.fail else (Comp.next (ZhA a1 b1 0) fun ov=>match ov with | .inl rv1=>Comp.ret rv1 | .inr ()=>Zfa))
def Zef(a1:Zf)(b1:Zf):Comp Bool:=
 Comp.bind (Zeg a1.num b1.num) fun yv1=>match yv1 with|false=>(Comp.ret false)|true=>(Comp.bind (Zeg a1.den b1.den) fun yv2=>Comp.ret yv2)
def Zcs(a1:Zc)(b1:Zc):Comp Bool:=
 if a1.m=b1.m then (Comp.bind (Zef a1.c b1.c) fun yv1=>Comp.ret yv1) else (Comp.ret false)
def Zfi:Comp Bool:=
 Comp.ret true
def Zk3(p1:(List Zc))(q1:(List Zc)):Int→Comp (Bool⊕Unit):=
 Comp.loop fun gs=>match gs with|i1=>if i1<(p1.length:Int) then (Comp.at' p1 i1 fun x1=>Comp.at' q1 i1 fun x2=>Comp.bind (Zcs x1 x2) fun yv1=>if (!yv1)=true then Comp.fail else (Comp.ret (.inl (IntKind.i64.wrap (i1+1))))) else (Comp.ret (.inr (.inr ())))
def Zei(p1:(List Zc))(q1:(List Zc)):Comp Bool:=
 if ¬ (p1.length:Int)=(q1.length:Int) then Comp.fail else (Comp.next (Zk3 p1 q1 0) fun ov=>match ov with | .inl rv1=>Comp.ret rv1 | .inr ()=>Zfi)
def Zev(a0_1:Zb)(a1_1:Zd):Comp (Zd×Int):=
 Comp.bind (Zbi a0_1 a1_1) fun yv1=>if ¬ yv1.2=0 then (Comp.ret ((Zd.mk 0 ByteArray.empty 0 0 0 [] false),yv1.2)) else (if a1_1.kind=1 then (Comp.ret ((Zd.mk 2 ByteArray.empty a1_1.at' 0 0 [] false),0)) else (if a1_1.kind=2 then (Comp.at' a0_1.vars a1_1.at' fun x1=>Comp.ret ((Zd.mk 1 x1 a1_1.at' 0 0 [] false),0)) else (if a1_1.kind=3 then (Comp.at' a0_1.vars a1_1.at' fun x2=>Comp.ret ((Zd.mk 3 x2 a1_1.at' 0 0 [] false),0)) else (if a1_1.kind=4 then (Comp.ret ((Zd.mk 4 ByteArray.empty a1_1.at' a1_1.to' 0 [] false),0)) else (if a1_1.kind=5 then (Comp.bind (Zb0 a0_1 a1_1) fun yv2=>Comp.ret ((Zd.mk 6 ByteArray.empty 0 0 yv2 [] false),0)) else (if a1_1.kind=8 then (Comp.ret ((Zd.mk 8 ByteArray.empty 0 0 a1_1.id [] false),0)) else (Comp.bind (Za0 a0_1 a1_1.id) fun yv3=>if a1_1.kind=6 then (Comp.ret ((Zd.mk 5 ByteArray.empty 0 0 a1_1.id yv3.1.p yv3.2.1),0)) else (Comp.ret ((Zd.mk 7 ByteArray.empty 0 0 a1_1.id yv3.1.p false),0)))))))))
def Zag:Comp Bool:=
 Comp.ret true
def ZcR(s1_1:(List ByteArray))(s2_1:(List ByteArray)):Int→Comp (Bool⊕Unit):=
 Comp.loop fun gs=>match gs with|v13_1=>if v13_1<(s1_1.length:Int) then (Comp.at' s1_1 v13_1 fun x1=>Comp.at' s2_1 v13_1 fun x2=>if ¬ x1=x2 then (Comp.ret (.inr (.inl false))) else (Comp.ret (.inl (IntKind.i64.wrap (v13_1+1))))) else (Comp.ret (.inr (.inr ())))
def Z7(s1_1:(List ByteArray))(s2_1:(List ByteArray)):Comp Bool:=
 if ¬ (s1_1.length:Int)=(s2_1.length:Int) then (Comp.ret false) else (Comp.next (ZcR s1_1 s2_1 0) fun ov=>match ov with | .inl rv1=>Comp.ret rv1 | .inr ()=>Zag)
def ZiD(n1:Int):Comp Zg:=
 if n1<0 then Comp.fail else (Comp.bind (Zgt (IntKind.u64.wrap n1)) fun yv1=>Comp.bind (Zc9 (decide (n1<0)) yv1) fun yv2=>Comp.ret yv2)
def Zbx(bx1:Zg):Comp Zg:=
 Comp.ret bx1
def Zgy(l1:(List Zg)):(Int×Zg)→Comp Zg:=
 Comp.loop fun gs=>match gs with|(v9_1,bx2)=>if v9_1<(l1.length:Int) then (Comp.at' l1 v9_1 fun x1=>Comp.bind (Za7 x1) fun yv2=>if yv2=true then (Comp.ret (.inl (IntKind.i64.wrap (v9_1+1),bx2))) else (Comp.bind (Za7 bx2) fun yv3=>if yv3=true then (Comp.ret (.inl (IntKind.i64.wrap (v9_1+1),x1))) else Comp.fail)) else (Comp.ret (.inr bx2))
def Zcb(l1:(List Zg)):Comp Zg:=
 Comp.bind (ZiD 1) fun yv1=>Comp.next (Zgy l1 (0,yv1)) fun ov=>match ov with|bx1=>Zbx bx1
def ZhO(a1:Zg)(b1:Zg):Comp Int:=
 Comp.bind (ZbF a1) fun yv1=>Comp.bind (ZbF b1) fun yv2=>if ¬ yv1=yv2 then Comp.fail else (if yv1<0 then (Comp.bind (ZcG b1.mag a1.mag) fun yv3=>Comp.ret yv3) else (Comp.bind (ZcG a1.mag b1.mag) fun yv4=>Comp.ret yv4))
def ZbN(a1:Zf)(b1:Zf):Comp Int:=
 Comp.bind (Zaw a1) fun yv1=>Comp.bind (Zaw b1) fun yv2=>if ¬ yv1=yv2 then (if yv1<yv2 then (Comp.ret (-1)) else (Comp.ret 1)) else (Comp.bind (Zcb [a1.num,b1.den]) fun yv4=>Comp.bind (Zcb [b1.num,a1.den]) fun yv6=>Comp.bind (ZhO yv4 yv6) fun yv7=>Comp.ret yv7)
def ZaS(s1:Zc)(t1:Zc):Comp Bool:=
 if s1.m=t1.m then (Comp.bind (ZbN s1.c t1.c) fun yv1=>Comp.ret (decide (yv1=0))) else (Comp.ret false)
def Zq:Comp Bool:=
 Comp.ret true
def ZY(s1_1:(List Zc))(s2_1:(List Zc)):Int→Comp (Bool⊕Unit):=
 Comp.loop fun gs=>match gs with|v17_1=>if v17_1<(s1_1.length:Int) then (Comp.at' s1_1 v17_1 fun x1=>Comp.at' s2_1 v17_1 fun x2=>Comp.bind (ZaS x1 x2) fun yv1=>if (!yv1)=true then (Comp.ret (.inr (.inl false))) else (Comp.ret (.inl (IntKind.i64.wrap (v17_1+1))))) else (Comp.ret (.inr (.inr ())))
def Zs(s1_1:(List Zc))(s2_1:(List Zc)):Comp Bool:=
 if ¬ (s1_1.length:Int)=(s2_1.length:Int) then (Comp.ret false) else (Comp.next (ZY s1_1 s2_1 0) fun ov=>match ov with | .inl rv1=>Comp.ret rv1 | .inr ()=>Zq)
def Zby(p1:(List Zc))(q1:(List Zc)):Comp Bool:=
 Comp.bind (Zs p1 q1) fun yv1=>Comp.ret yv1
def ZgU(q1:Za)(v1:Bool):Comp Zd:=
 Comp.ret (Zd.mk 6 ByteArray.empty 0 0 q1.id [] false)
def ZgV(q1:Za)(neq1:Bool):Comp Zd:=
 Comp.ret (Zd.mk 5 ByteArray.empty 0 0 q1.id q1.p neq1)
def Zak(v9_1:(List Zd)):Comp (List Zd):=
 Comp.ret v9_1
def Zal(v23_1:Int)(v9_3:(List Zd)):Comp (((List Zd)×Int)⊕(List Zd)):=
 Comp.ret (.inl (v9_3,IntKind.i64.wrap (v23_1+1)))
def ZB(v23_1:Int)(v9_4:(List Zd))(v30_1:Int)(x2:Za)(v60_1:Bool):Comp (((List Zd)×Int)⊕(List Zd)):=
 if v60_1=true then (Comp.bind (ZgU x2 (decide (v23_1=1))) fun yv2=>Comp.chk ((v9_4++[yv2]).length≤small) (Comp.ret (.inl ((v9_4++[yv2]),IntKind.i64.wrap (v30_1+1))))) else (Comp.ret (.inl (v9_4,IntKind.i64.wrap (v30_1+1))))
def Za3(a1_1:Zb)(a2_1:Bool)(v23_1:Int)(x1:(List Za)):((List Zd)×Int)→Comp (List Zd):=
 Comp.loop fun gs=>match gs with|(v9_4,v30_1)=>if v30_1<(x1.length:Int) then (Comp.at' x1 v30_1 fun x2=>Comp.bind (Za0 a1_1 x2.id) fun yv1=>if a2_1=true then (ZB v23_1 v9_4 v30_1 x2 true) else (if yv1.2.2=true then (if ¬ yv1.2.1=(decide (v23_1=1)) then (ZB v23_1 v9_4 v30_1 x2 true) else (Comp.bind (Zby yv1.1.p x2.p) fun yv3=>ZB v23_1 v9_4 v30_1 x2 (!yv3))) else (ZB v23_1 v9_4 v30_1 x2 true))) else (Comp.ret (.inr v9_4))
def Zc6(a0_1:Zb)(a1_1:Zb)(a2_1:Bool):((List Zd)×Int)→Comp (List Zd):=
 Comp.loop fun gs=>match gs with|(v9_2,v23_1)=>if v23_1<([a0_1.eqs,a0_1.neqs].length:Int) then (Comp.at' [a0_1.eqs,a0_1.neqs] v23_1 fun x1=>Comp.next (Za3 a1_1 a2_1 v23_1 x1 (v9_2,0)) fun ov=>match ov with|v9_3=>Zal v23_1 v9_3) else (Comp.ret (.inr v9_2))
def Zay(a0_1:Zb)(a1_1:Zb)(a2_1:Bool):Comp (List Zd):=
 Comp.next (Zc6 a0_1 a1_1 a2_1 ([],0)) fun ov=>match ov with|v9_1=>Zak v9_1
def Zam(v9_1:(List Zd)):Comp (List Zd):=
 Comp.ret v9_1
def Zan(v23_1:Int)(v9_3:(List Zd)):Comp (((List Zd)×Int)⊕(List Zd)):=
 Comp.ret (.inl (v9_3,IntKind.i64.wrap (v23_1+1)))
def ZC(v23_1:Int)(v9_4:(List Zd))(v30_1:Int)(x2:Za)(v60_1:Bool):Comp (((List Zd)×Int)⊕(List Zd)):=
 if v60_1=true then (Comp.bind (ZgV x2 (decide (v23_1=1))) fun yv2=>Comp.chk ((v9_4++[yv2]).length≤small) (Comp.ret (.inl ((v9_4++[yv2]),IntKind.i64.wrap (v30_1+1))))) else (Comp.ret (.inl (v9_4,IntKind.i64.wrap (v30_1+1))))
def Za4(a1_1:Zb)(a2_1:Bool)(v23_1:Int)(x1:(List Za)):((List Zd)×Int)→Comp (List Zd):=
 Comp.loop fun gs=>match gs with|(v9_4,v30_1)=>if v30_1<(x1.length:Int) then (Comp.at' x1 v30_1 fun x2=>Comp.bind (Za0 a1_1 x2.id) fun yv1=>if a2_1=true then (ZC v23_1 v9_4 v30_1 x2 true) else (if yv1.2.2=true then (if ¬ yv1.2.1=(decide (v23_1=1)) then (ZC v23_1 v9_4 v30_1 x2 true) else (Comp.bind (Zby yv1.1.p x2.p) fun yv3=>ZC v23_1 v9_4 v30_1 x2 (!yv3))) else (ZC v23_1 v9_4 v30_1 x2 true))) else (Comp.ret (.inr v9_4))
def Zc7(a0_1:Zb)(a1_1:Zb)(a2_1:Bool):((List Zd)×Int)→Comp (List Zd):=
 Comp.loop fun gs=>match gs with|(v9_2,v23_1)=>if v23_1<([a0_1.eqs,a0_1.neqs].length:Int) then (Comp.at' [a0_1.eqs,a0_1.neqs] v23_1 fun x1=>Comp.next (Za4 a1_1 a2_1 v23_1 x1 (v9_2,0)) fun ov=>match ov with|v9_3=>Zan v23_1 v9_3) else (Comp.ret (.inr v9_2))
def Zaz(a0_1:Zb)(a1_1:Zb)(a2_1:Bool):Comp (List Zd):=
 Comp.next (Zc7 a0_1 a1_1 a2_1 ([],0)) fun ov=>match ov with|v9_1=>Zam v9_1
def Zes(a1:Zb)(b1:Zb)(yv1:Bool)(l1:(List Zd)):Comp ((List Zd)×Int):=
 Comp.bind (Zaz b1 a1 (!yv1)) fun yv3=>Comp.chk ((l1++yv3).length≤small) (Comp.ret ((l1++yv3),0))
def Zet(a1:Zb)(b1:Zb)(yv1:Bool)(l3:(List Zd)):Comp ((List Zd)×Int):=
 Zes a1 b1 yv1 l3
def ZgS(b1:Zb):((List Zd)×Int)→Comp (List Zd):=
 Comp.loop fun gs=>match gs with|(l4,v46_1)=>if v46_1<(b1.vars.length:Int) then (Comp.at' b1.vars v46_1 fun x1=>Comp.chk ((l4++[(Zd.mk 1 x1 v46_1 0 0 [] false)]).length≤small) (Comp.ret (.inl ((l4++[(Zd.mk 1 x1 v46_1 0 0 [] false)]),IntKind.i64.wrap (v46_1+1))))) else (Comp.ret (.inr l4))
def Zeu(a1:Zb)(b1:Zb)(yv1:Bool)(l2:(List Zd)):Comp ((List Zd)×Int):=
 Comp.next (ZgS b1 (l2,0)) fun ov=>match ov with|l3=>Zet a1 b1 yv1 l3
def ZgT:((List Zd)×Int)→Comp (List Zd):=
 Comp.loop fun gs=>match gs with|(l5,i1)=>if 0≤i1 then (Comp.chk ((l5++[(Zd.mk 2 ByteArray.empty i1 0 0 [] false)]).length≤small) (Comp.ret (.inl ((l5++[(Zd.mk 2 ByteArray.empty i1 0 0 [] false)]),IntKind.i64.wrap (i1-1))))) else (Comp.ret (.inr l5))
def ZgW(a1:Zb)(b1:Zb):Comp ((List Zd)×Int):=
 Comp.bind (Z7 a1.vars b1.vars) fun yv1=>Comp.bind (Zay a1 b1 (!yv1)) fun yv2=>if (!yv1)=true then (Comp.next (ZgT (yv2,IntKind.i64.wrap ((a1.vars.length:Int)-1))) fun ov=>match ov with|l2=>Zeu a1 b1 yv1 l2) else (Zes a1 b1 yv1 yv2)
def ZgR(a1:Zb)(b1:Zb):Comp ((List Zd)×Int):=
 Comp.bind (Zba a1) fun yv4=>match yv4 with|false=>(Comp.ret ([],320))|true=>(Comp.bind (Zba b1) fun yv5=>if (!yv5)=true then (Comp.ret ([],320)) else (ZgW a1 b1))
def Zcy(a1:Zd)(b1:Zd):Comp Bool:=
 if a1.kind=b1.kind then (if a1.name=b1.name then (if a1.at'=b1.at' then (if a1.to'=b1.to' then (if a1.id=b1.id then (if a1.neq=b1.neq then (Comp.bind (Zei a1.p b1.p) fun yv1=>Comp.ret yv1) else (Comp.ret false)) else (Comp.ret false)) else (Comp.ret false)) else (Comp.ret false)) else (Comp.ret false)) else (Comp.ret false)
def ZeY(yv6:Zt):Comp Bool:=
 Comp.bind (Zbi yv6.s (Zd.mk 2 ByteArray.empty 0 0 0 [] false)) fun yv7=>Comp.bind (Zev yv6.s (Zd.mk 5 ByteArray.empty 0 0 0 [] false)) fun yv8=>Comp.bind (Zbi (Zb.mk [] [] [] 1) (Zd.mk 0 ByteArray.empty 0 0 0 [] false)) fun yv9=>Comp.bind (ZgR (Zb.mk [] [] [] 1) (Zb.mk [] [] [] 1)) fun yv10=>if yv7.2=333 then (if yv8.2=0 then (Comp.bind (Zcy yv8.1 (Zd.mk 6 ByteArray.empty 0 0 2 [] false)) fun yv11=>match yv11 with|false=>(Comp.ret false)|true=>(if yv9.2=1 then (if yv10.2=0 then (Comp.ret (decide ((yv10.1.length:Int)=0))) else (Comp.ret false)) else (Comp.ret false))) else (Comp.ret false)) else (Comp.ret false)
def ZeA:Comp Bool:=
 Comp.bind (Zj4 0) fun yv1=>Comp.bind (Zj4 0) fun yv2=>Comp.bind (Zkb yv1 yv2) fun yv3=>Comp.bind (Zi6 1) fun yv4=>Comp.bind (Zi8 yv3 yv4) fun yv5=>Comp.bind (Zd1 (Zb.mk [] [] [] 1) [(Zd.mk 1 Zn 0 0 0 [] false),(Zd.mk 5 ByteArray.empty 0 0 0 yv5 false)]) fun yv6=>if ¬ yv6.e=0 then (Comp.ret false) else (if ¬ yv6.n=2 then (Comp.ret false) else (if ¬ (yv6.s.vars.length:Int)=1 then (Comp.ret false) else (if ¬ (yv6.s.eqs.length:Int)=1 then (Comp.ret false) else (Comp.at' yv6.s.eqs 0 fun x1=>if ¬ x1.id=1 then (Comp.ret false) else (if ¬ yv6.s.next=2 then (Comp.ret false) else (Comp.at' yv6.s.eqs 0 fun x2=>Comp.bind (Zei x2.p yv5) fun yv12=>if (!yv12)=true then Comp.fail else (ZeY yv6)))))))
def Zjn:Comp (List ByteArray):=
 Comp.ret [Zn,ZH,ZA,Zu,Z6,Z1]
def Zhq(n1:Int):Comp Int:=
 if n1<0 then (Comp.ret (IntKind.i64.wrap (0-(IntKind.i64.wrap n1)))) else (Comp.ret (IntKind.i64.wrap n1))
def Zff(v9_1:(List Zc)):Comp (List Zc):=
 Comp.ret v9_1
def Zfg(a0_1:ZF)(v9_2:(List Zc))(v10_1:Int)(bx1:(Fin 8→Int)):Comp (((List Zc)×Int)⊕(List Zc)):=
 Comp.at' a0_1.t v10_1 fun x1=>Comp.bind (Z5 (IntKind.i64.wrap (Int.tmod (getF x1 0) 4))) fun yv1=>Comp.bind (Z5 1) fun yv2=>Comp.bind (ZeO yv1 [(Zc.mk yv2 bx1)]) fun yv3=>Comp.bind (ZcX v9_2 yv3) fun yv4=>Comp.ret (.inl (yv4,IntKind.i64.wrap (v10_1+1)))
def ZhD(a0_1:ZF)(a1_1:Int)(v10_1:Int):(Int×Int×(Fin 8→Int))→Comp (Fin 8→Int):=
 Comp.loop fun gs=>match gs with|(v12_1,v13_1,bx2)=>if v13_1<a1_1 then (if v13_1<4 then (Comp.at' a0_1.t v10_1 fun x2=>Comp.chk (0≤IntKind.i64.wrap (1+v13_1)∧(IntKind.i64.wrap (1+v13_1))<5) (Comp.bind (Zhq (getF x2 (IntKind.i64.wrap (1+v13_1)))) fun yv5=>Comp.chk ((IntKind.i64.wrap (v12_1+1))≠0) (Comp.chk (0≤v13_1∧v13_1<8) (Comp.chk (0≤v13_1∧v13_1<8) (Comp.ret (.inl (IntKind.i64.wrap (v12_1-(getF (setF bx2 v13_1.toNat (Int.tmod yv5 (IntKind.i64.wrap (v12_1+1)))) v13_1)),IntKind.i64.wrap (v13_1+1),setF bx2 v13_1.toNat (Int.tmod yv5 (IntKind.i64.wrap (v12_1+1)))))))))) else (Comp.ret (.inr bx2))) else (Comp.ret (.inr bx2))
def ZhE(a0_1:ZF)(a1_1:Int)(a2_1:Int)(v9_2:(List Zc))(v10_1:Int):Comp (((List Zc)×Int)⊕(List Zc)):=
 Comp.next (ZhD a0_1 a1_1 v10_1 (a2_1,0,(fun _=>0))) fun ov=>match ov with|bx1=>Zfg a0_1 v9_2 v10_1 bx1
def Zk2(a0_1:ZF)(a1_1:Int)(a2_1:Int)(a3_1:Int):((List Zc)×Int)→Comp (List Zc):=
 Comp.loop fun gs=>match gs with|(v9_2,v10_1)=>if v10_1<(a0_1.t.length:Int) then (if v10_1<a3_1 then (ZhE a0_1 a1_1 a2_1 v9_2 v10_1) else (Comp.ret (.inr v9_2))) else (Comp.ret (.inr v9_2))
def ZhZ(a0_1:ZF)(a1_1:Int)(a2_1:Int)(a3_1:Int):Comp (List Zc):=
 Comp.next (Zk2 a0_1 a1_1 a2_1 a3_1 ([],0)) fun ov=>match ov with|v9_1=>Zff v9_1
def ZbZ(a0_1:Zb)(a1_1:Zx)(bx2:Zd):Comp Zd:=
 Comp.bind (ZhZ a1_1.p (if 3<(a0_1.vars.length:Int) then 3 else (a0_1.vars.length:Int)) 2 3) fun yv3=>Comp.ret (Zd.mk bx2.kind bx2.name bx2.at' bx2.to' bx2.id yv3 bx2.neq)
def ZaV(a0_1:Zb)(a1_1:Zx)(bx1:Zd):Comp Zd:=
 if bx1.kind=5 then (if 0<(Int.tmod a1_1.n 4) then (ZbZ a0_1 a1_1 (Zd.mk bx1.kind bx1.name bx1.at' bx1.to' 0 bx1.p bx1.neq)) else (ZbZ a0_1 a1_1 bx1)) else (ZbZ a0_1 a1_1 bx1)
def Zf2(a0_1:Zb)(a1_1:Zx):Comp Zd:=
 Comp.chk ((IntKind.i64.wrap ((a0_1.vars.length:Int)+1))≠0) (Comp.chk ((IntKind.i64.wrap ((a0_1.vars.length:Int)+1))≠0) (Comp.chk ((IntKind.i64.wrap (a0_1.next+1))≠0) (Comp.bind (Zjn) fun yv1=>Comp.at' yv1 (Int.tmod a1_1.n 6) fun x2=>if 8≤(Int.tmod a1_1.kind 16) then (if (Int.tmod a1_1.a 8)<5 then (ZaV a0_1 a1_1 (Zd.mk 5 x2 (Int.tmod (IntKind.i64.wrap a1_1.a) (IntKind.i64.wrap ((a0_1.vars.length:Int)+1))) (Int.tmod (IntKind.i64.wrap a1_1.b) (IntKind.i64.wrap ((a0_1.vars.length:Int)+1))) (Int.tmod (IntKind.i64.wrap a1_1.n) (IntKind.i64.wrap (a0_1.next+1))) [] (decide ((Int.tmod a1_1.b 4)=3)))) else (ZaV a0_1 a1_1 (Zd.mk (IntKind.i64.wrap (5+(IntKind.i64.wrap (Int.tmod a1_1.a 4)))) x2 (Int.tmod (IntKind.i64.wrap a1_1.a) (IntKind.i64.wrap ((a0_1.vars.length:Int)+1))) (Int.tmod (IntKind.i64.wrap a1_1.b) (IntKind.i64.wrap ((a0_1.vars.length:Int)+1))) (Int.tmod (IntKind.i64.wrap a1_1.n) (IntKind.i64.wrap (a0_1.next+1))) [] (decide ((Int.tmod a1_1.b 4)=3))))) else (ZaV a0_1 a1_1 (Zd.mk (IntKind.i64.wrap (1+(IntKind.i64.wrap (Int.tmod a1_1.kind 16)))) x2 (Int.tmod (IntKind.i64.wrap a1_1.a) (IntKind.i64.wrap ((a0_1.vars.length:Int)+1))) (Int.tmod (IntKind.i64.wrap a1_1.b) (IntKind.i64.wrap ((a0_1.vars.length:Int)+1))) (Int.tmod (IntKind.i64.wrap a1_1.n) (IntKind.i64.wrap (a0_1.next+1))) [] (decide ((Int.tmod a1_1.b 4)=3)))))))
def Zcx(b1:Int):Comp Bool:=
 if 65≤b1 then (if b1≤90 then (Comp.ret true) else (if 97≤b1 then (Comp.ret (decide (b1≤122))) else (Comp.ret false))) else (if 97≤b1 then (Comp.ret (decide (b1≤122))) else (Comp.ret false))
def Zfk:Comp Bool:=
 Comp.ret true
def Zk5(s1:ByteArray):Int→Comp (Bool⊕Unit):=
 Comp.loop fun gs=>match gs with|i1=>if i1<(s1.size:Int) then (Comp.chk (0≤(i1:Int)∧i1<(s1.size:Int)) (Comp.bind (Zcx (byteAt s1 i1)) fun yv1=>match yv1 with|false=>(Comp.chk (0≤(i1:Int)∧i1<(s1.size:Int)) (if 48≤(byteAt s1 i1) then (Comp.chk (0≤(i1:Int)∧i1<(s1.size:Int)) (if (byteAt s1 i1)≤57 then (Comp.ret (.inl (IntKind.i64.wrap (i1+1)))) else (Comp.chk (0≤(i1:Int)∧i1<(s1.size:Int)) (if ¬ (byteAt s1 i1)=95 then (Comp.ret (.inr (.inl false))) else (Comp.ret (.inl (IntKind.i64.wrap (i1+1)))))))) else (Comp.chk (0≤(i1:Int)∧i1<(s1.size:Int)) (if ¬ (byteAt s1 i1)=95 then (Comp.ret (.inr (.inl false))) else (Comp.ret (.inl (IntKind.i64.wrap (i1+1))))))))|true=>(Comp.ret (.inl (IntKind.i64.wrap (i1+1)))))) else (Comp.ret (.inr (.inr ())))
def ZhF(s1:ByteArray):Comp Bool:=
 Comp.next (Zk5 s1 1) fun ov=>match ov with | .inl rv1=>Comp.ret rv1 | .inr ()=>Zfk
def Zc1(s1:ByteArray):Comp Bool:=
 if (s1.size:Int)<1 then (Comp.ret false) else (if 12<(s1.size:Int) then (Comp.ret false) else (Comp.chk (0≤(0:Int)∧0<(s1.size:Int)) (Comp.bind (Zcx (byteAt s1 0)) fun yv2=>if (!yv2)=true then (Comp.ret false) else (ZhF s1))))
def Zep:Comp Int:=
 Comp.ret (-1)
def Zkj(s1:Zb)(name1:ByteArray):Int→Comp (Int⊕Unit):=
 Comp.loop fun gs=>match gs with|i1=>if i1<(s1.vars.length:Int) then (Comp.at' s1.vars i1 fun x1=>if x1=name1 then (Comp.ret (.inr (.inl i1))) else (Comp.ret (.inl (IntKind.i64.wrap (i1+1))))) else (Comp.ret (.inr (.inr ())))
def ZeS(s1:Zb)(name1:ByteArray):Comp Int:=
 Comp.next (Zkj s1 name1 0) fun ov=>match ov with | .inl rv1=>Comp.ret rv1 | .inr ()=>Zep
def Zeq(s1:Zb)(atv1:Int):Comp Bool:=
 if 0≤atv1 then (Comp.ret (decide (atv1<(s1.vars.length:Int)))) else (Comp.ret false)
def ZfT(n1:Int):Comp Int:=
 Comp.ret (IntKind.u8.wrap n1)
def ZlV(i1:Int):(Int×Int)→Comp Int:=
 Comp.loop fun gs=>match gs with|(n2,k1)=>if k1<i1 then (Comp.ret (.inl (IntKind.i64.wrap (2*n2),IntKind.i64.wrap (k1+1)))) else (Comp.ret (.inr n2))
def Zi2(i1:Int):Comp Int:=
 Comp.next (ZlV i1 (1,0)) fun ov=>match ov with|n1=>ZfT n1
def ZcW(n1:Int):Comp Int:=
 Comp.ret n1
def Zi5(m1:(Fin 8→Int)):(Int×Int)→Comp Int:=
 Comp.loop fun gs=>match gs with|(n2,i1)=>if i1<8 then (Comp.chk (0≤i1∧i1<8) (if 0<(getF m1 i1) then (Comp.bind (Zi2 i1) fun yv1=>Comp.ret (.inl (IntKind.u8.wrap (n2+yv1),IntKind.i64.wrap (i1+1)))) else (Comp.ret (.inl (n2,IntKind.i64.wrap (i1+1)))))) else (Comp.ret (.inr n2))
def Zfc(m1:(Fin 8→Int)):Comp Int:=
 Comp.next (Zi5 m1 (0,0)) fun ov=>match ov with|n1=>ZcW n1
def Zfj(out1:Int):Comp Int:=
 Comp.ret out1
def Zk4(p1:(List Zc)):(Int×Int)→Comp Int:=
 Comp.loop fun gs=>match gs with|(out2,i1)=>if i1<(p1.length:Int) then (Comp.at' p1 i1 fun x1=>Comp.bind (Zfc x1.m) fun yv1=>Comp.ret (.inl (IntKind.u8.wrap (BitVec.ofInt IntKind.u8.bits out2 ||| BitVec.ofInt IntKind.u8.bits yv1).toNat,IntKind.i64.wrap (i1+1)))) else (Comp.ret (.inr out2))
def Zc0(p1:(List Zc)):Comp Int:=
 Comp.next (Zk4 p1 (0,0)) fun ov=>match ov with|out1=>Zfj out1
def Zfp:Comp Bool:=
 Comp.ret false
def Zk9(s1:Zb)(atv1:Int):Int→Comp (Bool⊕Unit):=
 Comp.loop fun gs=>match gs with|i1=>if i1<(s1.neqs.length:Int) then (Comp.at' s1.neqs i1 fun x1=>Comp.bind (Zc0 x1.p) fun yv1=>Comp.chk (0≤atv1) (if (Int.tmod (Int.fdiv (IntKind.i64.wrap yv1) (2 ^ (min (atv1).toNat IntKind.i64.bits))) 2)=1 then (Comp.ret (.inr (.inl true))) else (Comp.ret (.inl (IntKind.i64.wrap (i1+1)))))) else (Comp.ret (.inr (.inr ())))
def Zdn(s1:Zb)(atv1:Int):Comp Bool:=
 Comp.next (Zk9 s1 atv1 0) fun ov=>match ov with | .inl rv1=>Comp.ret rv1 | .inr ()=>Zfp
def Zla(s1:Zb)(atv1:Int):Int→Comp (Bool⊕Unit):=
 Comp.loop fun gs=>match gs with|i2=>if i2<(s1.eqs.length:Int) then (Comp.at' s1.eqs i2 fun x2=>Comp.bind (Zc0 x2.p) fun yv2=>Comp.chk (0≤atv1) (if (Int.tmod (Int.fdiv (IntKind.i64.wrap yv2) (2 ^ (min (atv1).toNat IntKind.i64.bits))) 2)=1 then (Comp.ret (.inr (.inl true))) else (Comp.ret (.inl (IntKind.i64.wrap (i2+1)))))) else (Comp.ret (.inr (.inr ())))
def Zh1(s1:Zb)(atv1:Int):Comp Bool:=
 Comp.next (Zla s1 atv1 0) fun ov=>match ov with | .inl rv2=>Comp.ret rv2 | .inr ()=>Zdn s1 atv1
def Zfo:Comp Int:=
 Comp.ret (-1)
def Zk8(l1:(List Za))(id1:Int):Int→Comp (Int⊕Unit):=
 Comp.loop fun gs=>match gs with|i1=>if i1<(l1.length:Int) then (Comp.at' l1 i1 fun x1=>if x1.id=id1 then (Comp.ret (.inr (.inl i1))) else (Comp.ret (.inl (IntKind.i64.wrap (i1+1))))) else (Comp.ret (.inr (.inr ())))
def Zb6(l1:(List Za))(id1:Int):Comp Int:=
 Comp.next (Zk8 l1 id1 0) fun ov=>match ov with | .inl rv1=>Comp.ret rv1 | .inr ()=>Zfo
def Zhr(s1:Zb)(id1:Int):Comp Bool:=
 Comp.bind (Zb6 s1.eqs id1) fun yv1=>if 0≤yv1 then (Comp.ret true) else (Comp.bind (Zb6 s1.neqs id1) fun yv2=>Comp.ret (decide (0≤yv2)))
def Zgz(a1:Zg):Comp Bool:=
 if (a1.mag.length:Int)=0 then Comp.fail else (Comp.at' a1.mag (IntKind.i64.wrap ((a1.mag.length:Int)-1)) fun x1=>Comp.ret (decide (¬ x1=0)))
def Zlo(a1:Zg)(b1:Zg):Comp Int:=
 if a1.neg=true then (if (!b1.neg)=true then Comp.fail else (if a1.neg=true then (if a1.neg=true then Comp.fail else (Comp.bind (Zad a1.mag b1.mag) fun yv1=>Comp.ret yv1)) else (if b1.neg=true then Comp.fail else (if a1.neg=true then Comp.fail else (Comp.bind (Zad a1.mag b1.mag) fun yv2=>Comp.ret yv2))))) else (if a1.neg=true then (if a1.neg=true then Comp.fail else (Comp.bind (Zad a1.mag b1.mag) fun yv3=>Comp.ret yv3)) else (if b1.neg=true then Comp.fail else (if a1.neg=true then Comp.fail else (Comp.bind (Zad a1.mag b1.mag) fun yv4=>Comp.ret yv4))))
def ZgC(a1:Zf):Comp Bool:=
 Comp.bind (Zhp a1.num a1.den) fun yv1=>Comp.bind (Zir 1) fun yv2=>Comp.bind (Zlo yv1 yv2) fun yv3=>Comp.ret (decide (yv3=0))
def ZeL(a1:Zf):Comp Bool:=
 Comp.bind (Zgz a1.num) fun yv4=>match yv4 with|false=>(Comp.ret false)|true=>(Comp.bind (Zgz a1.den) fun yv5=>match yv5 with|false=>(Comp.ret false)|true=>(Comp.bind (ZfQ a1.den) fun yv6=>if yv6<1 then Comp.fail else (ZgC a1)))
def Zek:Comp Bool:=
 Comp.ret true
def Zcu(p1:(List Zc))(i1:Int):Comp (Int⊕(Bool⊕Unit)):=
 if 0<i1 then (Comp.at' p1 (IntKind.i64.wrap (i1-1)) fun x1=>Comp.at' p1 i1 fun x2=>Comp.bind (ZfE x1.m x2.m) fun yv1=>if yv1≤0 then Comp.fail else (Comp.ret (.inl (IntKind.i64.wrap (i1+1))))) else (Comp.ret (.inl (IntKind.i64.wrap (i1+1))))
def Zkd(p1:(List Zc)):Int→Comp (Bool⊕Unit):=
 Comp.loop fun gs=>match gs with|i1=>if i1<(p1.length:Int) then (Comp.at' p1 i1 fun x3=>Comp.bind (ZeL x3.c) fun yv2=>match yv2 with|false=>(Comp.ret (.inr (.inl false)))|true=>(Comp.at' p1 i1 fun x4=>Comp.bind (ZbB x4.c) fun yv3=>if yv3=0 then (Comp.ret (.inr (.inl false))) else (Comp.at' p1 i1 fun x5=>Comp.bind (ZeN x5.m) fun yv4=>if (!yv4)=true then Comp.fail else (Zcu p1 i1)))) else (Comp.ret (.inr (.inr ())))
def ZeP(p1:(List Zc)):Comp Bool:=
 Comp.next (Zkd p1 0) fun ov=>match ov with | .inl rv1=>Comp.ret rv1 | .inr ()=>Zek
def ZdH(n1:Int):Comp Int:=
 Comp.ret n1
def ZjT(m1:(Fin 8→Int)):(Int×Int)→Comp Int:=
 Comp.loop fun gs=>match gs with|(n2,i1)=>if i1<8 then (Comp.chk (0≤i1∧i1<8) (Comp.ret (.inl (IntKind.i64.wrap (n2+(getF m1 i1)),IntKind.i64.wrap (i1+1))))) else (Comp.ret (.inr n2))
def ZfV(m1:(Fin 8→Int)):Comp Int:=
 Comp.next (ZjT m1 (0,0)) fun ov=>match ov with|n1=>ZdH n1
def ZdI(d1:Int):Comp Int:=
 Comp.ret d1
def ZjU(p1:(List Zc)):(Int×Int)→Comp Int:=
 Comp.loop fun gs=>match gs with|(d2,i1)=>if i1<(p1.length:Int) then (Comp.at' p1 i1 fun x1=>Comp.bind (ZfV x1.m) fun yv1=>Comp.ret (.inl (if d2<yv1 then yv1 else d2,IntKind.i64.wrap (i1+1)))) else (Comp.ret (.inr d2))
def ZdV(p1:(List Zc)):Comp Int:=
 Comp.next (ZjU p1 ((-1),0)) fun ov=>match ov with|d1=>ZdI d1
def Zf3(p1:(List Zc))(n1:Int):Comp Bool:=
 Comp.bind (ZeP p1) fun yv1=>match yv1 with|false=>(Comp.ret false)|true=>(Comp.bind (Zc0 p1) fun yv2=>Comp.chk (0≤n1) (if (Int.fdiv (IntKind.i64.wrap yv2) (2 ^ (min (n1).toNat IntKind.i64.bits)))=0 then (Comp.bind (ZdV p1) fun yv3=>Comp.ret (decide (yv3≤12))) else (Comp.ret false)))
def ZJ(s1:Zb)(ev1:Zd):Comp Int:=
 Comp.bind (Zf3 ev1.p (s1.vars.length:Int)) fun yv1=>if (!yv1)=true then (Comp.ret 320) else (Comp.ret 0)
def ZaP(s1:Zb)(ev1:Zd):Comp Int:=
 if ev1.neq=true then (if ev1.neq=true then (if 12≤(s1.neqs.length:Int) then (Comp.ret 2) else (if ev1.id=0 then (if 1000000≤s1.next then (Comp.ret 2) else (ZJ s1 ev1)) else (ZJ s1 ev1))) else (if ev1.id=0 then (if 1000000≤s1.next then (Comp.ret 2) else (ZJ s1 ev1)) else (ZJ s1 ev1))) else (if 12≤(s1.eqs.length:Int) then (Comp.ret 2) else (if ev1.neq=true then (if 12≤(s1.neqs.length:Int) then (Comp.ret 2) else (if ev1.id=0 then (if 1000000≤s1.next then (Comp.ret 2) else (ZJ s1 ev1)) else (ZJ s1 ev1))) else (if ev1.id=0 then (if 1000000≤s1.next then (Comp.ret 2) else (ZJ s1 ev1)) else (ZJ s1 ev1))))
def Zcz(s1:Zb)(ev1:Zd):Comp Int:=
 if ev1.id<0 then (Comp.ret 332) else (if 999999<ev1.id then (Comp.ret 332) else (if 0<ev1.id then (Comp.bind (Zhr s1 ev1.id) fun yv2=>if yv2=true then (Comp.ret 332) else (ZaP s1 ev1)) else (ZaP s1 ev1)))
def ZbP(s1:Zb)(ev1:Zd):Comp Int:=
 Comp.bind (Zb6 s1.eqs ev1.id) fun yv2=>if ev1.kind=8 then (if 0≤yv2 then (if 12≤(s1.neqs.length:Int) then (Comp.ret 2) else (if 0≤yv2 then (Comp.ret 0) else (if 12≤(s1.eqs.length:Int) then (Comp.ret 2) else (Comp.ret 0)))) else (if 0≤yv2 then (Comp.ret 0) else (if 12≤(s1.eqs.length:Int) then (Comp.ret 2) else (Comp.ret 0)))) else (Comp.ret 0)
def Zbs(s1:Zb)(ev1:Zd):Comp Int:=
 Comp.bind (Zhr s1 ev1.id) fun yv1=>if (!yv1)=true then (Comp.ret 332) else (if ev1.kind=7 then (Comp.bind (Zf3 ev1.p (s1.vars.length:Int)) fun yv3=>if (!yv3)=true then (Comp.ret 320) else (ZbP s1 ev1)) else (ZbP s1 ev1))
def ZeR(a0_1:Zb)(a1_1:Zd):Comp Int:=
 if a1_1.kind=1 then (if 4≤(a0_1.vars.length:Int) then (Comp.ret 2) else (if a1_1.at'<0 then (Comp.ret 330) else (if (a0_1.vars.length:Int)<a1_1.at' then (Comp.ret 330) else (Comp.bind (Zc1 a1_1.name) fun yv1=>match yv1 with|false=>(Comp.ret 331)|true=>(Comp.bind (ZeS a0_1 a1_1.name) fun yv2=>if 0≤yv2 then (Comp.ret 331) else (Comp.ret 0)))))) else (if a1_1.kind=2 then (Comp.bind (Zeq a0_1 a1_1.at') fun yv3=>if (!yv3)=true then (Comp.ret 330) else (Comp.bind (Zh1 a0_1 a1_1.at') fun yv4=>if yv4=true then (Comp.ret 333) else (Comp.ret 0))) else (if a1_1.kind=3 then (Comp.bind (Zeq a0_1 a1_1.at') fun yv5=>if (!yv5)=true then (Comp.ret 330) else (Comp.bind (ZeS a0_1 a1_1.name) fun yv6=>Comp.bind (Zc1 a1_1.name) fun yv7=>match yv7 with|false=>(Comp.ret 331)|true=>(if 0≤yv6 then (if ¬ yv6=a1_1.at' then (Comp.ret 331) else (Comp.ret 0)) else (Comp.ret 0)))) else (if a1_1.kind=4 then (Comp.bind (Zeq a0_1 a1_1.at') fun yv8=>match yv8 with|false=>(Comp.ret 330)|true=>(Comp.bind (Zeq a0_1 a1_1.to') fun yv9=>if (!yv9)=true then (Comp.ret 330) else (Comp.ret 0))) else (if a1_1.kind=5 then (Comp.bind (Zcz a0_1 a1_1) fun yv10=>Comp.ret yv10) else (if a1_1.kind=6 then (if a1_1.kind=6 then (Comp.bind (Zbs a0_1 a1_1) fun yv11=>Comp.ret yv11) else (Comp.ret 1)) else (if a1_1.kind=7 then (if a1_1.kind=7 then (Comp.bind (Zbs a0_1 a1_1) fun yv12=>Comp.ret yv12) else (Comp.ret 1)) else (if a1_1.kind=8 then (Comp.bind (Zbs a0_1 a1_1) fun yv13=>Comp.ret yv13) else (Comp.ret 1))))))))
def Zc3(fromv1:Int)(tov1:Int)(bx1:(Fin 8→Int)):Comp (Fin 8→Int):=
 Comp.chk (0≤fromv1∧fromv1<8) (Comp.ret (setF bx1 fromv1.toNat tov1))
def ZbQ(fromv1:Int)(tov1:Int)(i1:Int)(bx3:(Fin 8→Int)):Comp ((Int×(Fin 8→Int))⊕(Fin 8→Int)):=
 if i1<fromv1 then (if tov1≤i1 then (Comp.chk (0≤i1∧i1<8) (Comp.ret (.inl (IntKind.i64.wrap (i1+1),setF bx3 i1.toNat (IntKind.i64.wrap (i1+1)))))) else (Comp.ret (.inl (IntKind.i64.wrap (i1+1),bx3)))) else (Comp.ret (.inl (IntKind.i64.wrap (i1+1),bx3)))
def Zi9(fromv1:Int)(tov1:Int):(Int×(Fin 8→Int))→Comp (Fin 8→Int):=
 Comp.loop fun gs=>match gs with|(i1,bx2)=>if i1<8 then (Comp.chk (0≤i1∧i1<8) (if fromv1<i1 then (if i1≤tov1 then (Comp.chk (0≤i1∧i1<8) (ZbQ fromv1 tov1 i1 (setF (setF bx2 i1.toNat i1) i1.toNat (IntKind.i64.wrap (i1-1))))) else (ZbQ fromv1 tov1 i1 (setF bx2 i1.toNat i1))) else (ZbQ fromv1 tov1 i1 (setF bx2 i1.toNat i1)))) else (Comp.ret (.inr bx2))
def ZaA(fromv1:Int)(tov1:Int):Comp (Fin 8→Int):=
 Comp.next (Zi9 fromv1 tov1 (0,(fun _=>0))) fun ov=>match ov with|bx1=>Zc3 fromv1 tov1 bx1
def Zbg:Comp Bool:=
 Comp.ret true
def Zf0(perm1:(Fin 8→Int)):(Int×(Fin 8→Bool))→Comp (Bool⊕Unit):=
 Comp.loop fun gs=>match gs with|(i1,bx1)=>if i1<8 then (Comp.chk (0≤i1∧i1<8) (if (getF perm1 i1)<0 then (Comp.ret (.inr (.inl false))) else (Comp.chk (0≤i1∧i1<8) (if 8≤(getF perm1 i1) then (Comp.ret (.inr (.inl false))) else (Comp.chk (0≤i1∧i1<8) (Comp.chk (0≤getF perm1 i1∧(getF perm1 i1)<8) (if (getF bx1 (getF perm1 i1))=true then Comp.fail else (Comp.chk (0≤i1∧i1<8) (Comp.chk (0≤getF perm1 i1∧(getF perm1 i1)<8) (Comp.ret (.inl (IntKind.i64.wrap (i1+1),setF bx1 ((getF perm1 i1).toNat) true)))))))))))) else (Comp.ret (.inr (.inr ())))
def ZbW(perm1:(Fin 8→Int)):Comp Bool:=
 Comp.next (Zf0 perm1 (0,(fun _=>false))) fun ov=>match ov with | .inl rv1=>Comp.ret rv1 | .inr ()=>Zbg
def ZcY(out1:(List Zc)):Comp ((List Zc)×Int):=
 Comp.ret (out1,0)
def ZcZ(p1:(List Zc))(out2:(List Zc))(k1:Int)(bx1:(Fin 8→Int)):Comp (((List Zc)×Int)⊕(List Zc)):=
 Comp.at' p1 k1 fun x1=>Comp.bind (ZcX out2 [(Zc.mk x1.c bx1)]) fun yv2=>Comp.ret (.inl (yv2,IntKind.i64.wrap (k1+1)))
def ZfG(p1:(List Zc))(perm1:(Fin 8→Int))(k1:Int):(Int×(Fin 8→Int))→Comp (Fin 8→Int):=
 Comp.loop fun gs=>match gs with|(i1,bx2)=>if i1<8 then (Comp.chk (0≤i1∧i1<8) (Comp.at' p1 k1 fun x2=>Comp.chk (0≤i1∧i1<8) (Comp.chk (0≤getF perm1 i1∧(getF perm1 i1)<8) (Comp.ret (.inl (IntKind.i64.wrap (i1+1),setF bx2 ((getF perm1 i1).toNat) (getF x2.m i1))))))) else (Comp.ret (.inr bx2))
def Zi7(p1:(List Zc))(perm1:(Fin 8→Int)):((List Zc)×Int)→Comp (List Zc):=
 Comp.loop fun gs=>match gs with|(out2,k1)=>if k1<(p1.length:Int) then (Comp.next (ZfG p1 perm1 k1 (0,(fun _=>0))) fun ov=>match ov with|bx1=>ZcZ p1 out2 k1 bx1) else (Comp.ret (.inr out2))
def Zfh(p1:(List Zc))(perm1:(Fin 8→Int)):Comp ((List Zc)×Int):=
 Comp.bind (ZbW perm1) fun yv1=>if (!yv1)=true then Comp.fail else (Comp.next (Zi7 p1 perm1 ([],0)) fun ov=>match ov with|out1=>ZcY out1)
def Zer(out1:(List Za)):Comp (List Za):=
 Comp.ret out1
def Zkk(l1:(List Za))(perm1:(Fin 8→Int)):((List Za)×Int)→Comp (List Za):=
 Comp.loop fun gs=>match gs with|(out2,i1)=>if i1<(l1.length:Int) then (Comp.at' l1 i1 fun x1=>Comp.bind (Zfh x1.p perm1) fun yv1=>Comp.at' l1 i1 fun x2=>Comp.chk ((out2++[(Za.mk x2.id yv1.1)]).length≤small) (Comp.ret (.inl ((out2++[(Za.mk x2.id yv1.1)]),IntKind.i64.wrap (i1+1))))) else (Comp.ret (.inr out2))
def Zbb(l1:(List Za))(perm1:(Fin 8→Int)):Comp (List Za):=
 Comp.next (Zkk l1 perm1 ([],0)) fun ov=>match ov with|out1=>Zer out1
def Zf4(x1:Za)(out1:(List Za))(done1:Bool):Comp (List Za):=
 if (!done1)=true then (Comp.chk ((out1++[x1]).length≤small) (Comp.ret (out1++[x1]))) else (Comp.ret out1)
def ZdX(l1:(List Za))(x1:Za)(i1:Int)(out3:(List Za))(done3:Bool):Comp (((List Za)×Bool×Int)⊕(((List Za)×Bool))):=
 Comp.at' l1 i1 fun x2=>if ¬ x2.id=x1.id then (Comp.at' l1 i1 fun x3=>Comp.chk ((out3++[x3]).length≤small) (Comp.ret (.inl ((out3++[x3]),done3,IntKind.i64.wrap (i1+1))))) else (Comp.ret (.inl (out3,done3,IntKind.i64.wrap (i1+1))))
def Zl0(l1:(List Za))(x1:Za):((List Za)×Bool×Int)→Comp (((List Za)×Bool)):=
 Comp.loop fun gs=>match gs with|(out2,done2,i1)=>if i1<(l1.length:Int) then (if done2=true then (ZdX l1 x1 i1 out2 done2) else (Comp.at' l1 i1 fun x4=>if x1.id≤x4.id then (Comp.chk ((out2++[x1]).length≤small) (ZdX l1 x1 i1 (out2++[x1]) true)) else (ZdX l1 x1 i1 out2 done2))) else (Comp.ret (.inr (out2,done2)))
def Zch(l1:(List Za))(x1:Za):Comp (List Za):=
 Comp.next (Zl0 l1 x1 ([],false,0)) fun ov=>match ov with|(out1,done1)=>Zf4 x1 out1 done1
def Zfn(out1:(List Za)):Comp (List Za):=
 Comp.ret out1
def Zk7(l1:(List Za))(id1:Int):((List Za)×Int)→Comp (List Za):=
 Comp.loop fun gs=>match gs with|(out2,i1)=>if i1<(l1.length:Int) then (Comp.at' l1 i1 fun x1=>if ¬ x1.id=id1 then (Comp.at' l1 i1 fun x2=>Comp.chk ((out2++[x2]).length≤small) (Comp.ret (.inl ((out2++[x2]),IntKind.i64.wrap (i1+1))))) else (Comp.ret (.inl (out2,IntKind.i64.wrap (i1+1))))) else (Comp.ret (.inr out2))
def Zc2(l1:(List Za))(id1:Int):Comp (List Za):=
 Comp.next (Zk7 l1 id1 ([],0)) fun ov=>match ov with|out1=>Zfn out1
def ZaF(a0_1:Zb)(a1_1:Zd)(bx1:Za):Comp Zb:=
 if a1_1.neq=true then (Comp.bind (Zch a0_1.neqs bx1) fun yv3=>Comp.ret (Zb.mk a0_1.vars a0_1.eqs yv3 (if a0_1.next<(IntKind.i64.wrap (bx1.id+1)) then (IntKind.i64.wrap (bx1.id+1)) else a0_1.next))) else (Comp.bind (Zch a0_1.eqs bx1) fun yv4=>Comp.ret (Zb.mk a0_1.vars yv4 a0_1.neqs (if a0_1.next<(IntKind.i64.wrap (bx1.id+1)) then (IntKind.i64.wrap (bx1.id+1)) else a0_1.next)))
def Zgq(a0_1:Zb)(a1_1:Zd):Comp Zb:=
 Comp.bind (Zb6 a0_1.eqs a1_1.id) fun yv1=>Comp.bind (Zb6 a0_1.neqs a1_1.id) fun yv2=>if a1_1.kind=5 then (if a1_1.id=0 then (ZaF a0_1 a1_1 (Za.mk a0_1.next a1_1.p)) else (ZaF a0_1 a1_1 (Za.mk a1_1.id a1_1.p))) else (if a1_1.kind=6 then (Comp.bind (Zc2 a0_1.eqs a1_1.id) fun yv5=>Comp.bind (Zc2 a0_1.neqs a1_1.id) fun yv6=>Comp.ret (Zb.mk a0_1.vars yv5 yv6 a0_1.next)) else (if a1_1.kind=7 then (if 0≤yv1 then (Comp.bind (Zch a0_1.eqs (Za.mk a1_1.id a1_1.p)) fun yv7=>Comp.ret (Zb.mk a0_1.vars yv7 a0_1.neqs a0_1.next)) else (Comp.bind (Zch a0_1.neqs (Za.mk a1_1.id a1_1.p)) fun yv8=>Comp.ret (Zb.mk a0_1.vars a0_1.eqs yv8 a0_1.next))) else (if a1_1.kind=8 then (Comp.bind (Zc2 a0_1.eqs a1_1.id) fun yv9=>Comp.bind (Zc2 a0_1.neqs a1_1.id) fun yv10=>if 0≤yv1 then (Comp.at' a0_1.eqs yv1 fun x1=>Comp.bind (Zch a0_1.neqs x1) fun yv11=>Comp.ret (Zb.mk a0_1.vars yv9 yv11 a0_1.next)) else (Comp.at' a0_1.neqs yv2 fun x2=>Comp.bind (Zch a0_1.eqs x2) fun yv12=>Comp.ret (Zb.mk a0_1.vars yv12 yv10 a0_1.next))) else (Comp.ret a0_1))))
def Zae(a0_1:Zb)(a1_1:Zd):Comp (Zb×Int):=
 Comp.bind (ZeR a0_1 a1_1) fun yv1=>if ¬ yv1=0 then (Comp.ret ((Zb.mk [] [] [] 0),yv1)) else (Comp.chk (([]++a0_1.vars).length≤small) (if a1_1.kind=1 then (Comp.chk (0≤(0:Int)∧(0:Int)≤a1_1.at'∧a1_1.at'≤(a0_1.vars.length:Int)) (Comp.chk ((([]:List ByteArray)++((a0_1.vars.take a1_1.at'.toNat).drop (0:Int).toNat)).length≤small) (Comp.chk (((([]:List ByteArray)++((a0_1.vars.take a1_1.at'.toNat).drop (0:Int).toNat))++[a1_1.name]).length≤small) (Comp.chk (0≤a1_1.at'∧a1_1.at'≤(a0_1.vars.length:Int)∧(a0_1.vars.length:Int)≤(a0_1.vars.length:Int)) (Comp.chk ((((([]:List ByteArray)++((a0_1.vars.take a1_1.at'.toNat).drop (0:Int).toNat))++[a1_1.name])++((a0_1.vars.take (a0_1.vars.length:Int).toNat).drop a1_1.at'.toNat)).length≤small) (Comp.bind (ZaA (a0_1.vars.length:Int) a1_1.at') fun yv6=>Comp.bind (Zbb a0_1.eqs yv6) fun yv7=>Comp.bind (ZaA (a0_1.vars.length:Int) a1_1.at') fun yv8=>Comp.bind (Zbb a0_1.neqs yv8) fun yv9=>Comp.ret ((Zb.mk (((([]:List ByteArray)++((a0_1.vars.take a1_1.at'.toNat).drop (0:Int).toNat))++[a1_1.name])++((a0_1.vars.take (a0_1.vars.length:Int).toNat).drop a1_1.at'.toNat)) yv7 yv9 a0_1.next),0))))))) else (if a1_1.kind=2 then (Comp.chk (0≤(0:Int)∧(0:Int)≤a1_1.at'∧a1_1.at'≤(a0_1.vars.length:Int)) (Comp.chk ((([]:List ByteArray)++((a0_1.vars.take a1_1.at'.toNat).drop (0:Int).toNat)).length≤small) (Comp.chk (0≤IntKind.i64.wrap (a1_1.at'+1)∧(IntKind.i64.wrap (a1_1.at'+1))≤(a0_1.vars.length:Int)∧(a0_1.vars.length:Int)≤(a0_1.vars.length:Int)) (Comp.chk (((([]:List ByteArray)++((a0_1.vars.take a1_1.at'.toNat).drop (0:Int).toNat))++((a0_1.vars.take (a0_1.vars.length:Int).toNat).drop (IntKind.i64.wrap (a1_1.at'+1)).toNat)).length≤small) (Comp.bind (ZaA a1_1.at' (IntKind.i64.wrap ((a0_1.vars.length:Int)-1))) fun yv12=>Comp.bind (Zbb a0_1.eqs yv12) fun yv13=>Comp.bind (ZaA a1_1.at' (IntKind.i64.wrap ((a0_1.vars.length:Int)-1))) fun yv14=>Comp.bind (Zbb a0_1.neqs yv14) fun yv15=>Comp.ret ((Zb.mk ((([]:List ByteArray)++((a0_1.vars.take a1_1.at'.toNat).drop (0:Int).toNat))++((a0_1.vars.take (a0_1.vars.length:Int).toNat).drop (IntKind.i64.wrap (a1_1.at'+1)).toNat)) yv13 yv15 a0_1.next),0)))))) else (if a1_1.kind=3 then (Comp.at' ([]++a0_1.vars) a1_1.at' fun x1=>Comp.ret ((Zb.mk (([]++a0_1.vars).set a1_1.at'.toNat a1_1.name) a0_1.eqs a0_1.neqs a0_1.next),0)) else (if a1_1.kind=4 then (Comp.bind (ZaA 0 0) fun yv16=>Comp.chk (0≤a1_1.at'∧a1_1.at'<8) (Comp.chk (0≤a1_1.to'∧a1_1.to'<8) (Comp.at' a0_1.vars a1_1.to' fun x2=>Comp.at' ([]++a0_1.vars) a1_1.at' fun x3=>Comp.at' a0_1.vars a1_1.at' fun x4=>Comp.at' (([]++a0_1.vars).set a1_1.at'.toNat x2) a1_1.to' fun x5=>Comp.bind (Zbb a0_1.eqs (setF (setF yv16 a1_1.at'.toNat a1_1.to') a1_1.to'.toNat a1_1.at')) fun yv17=>Comp.bind (Zbb a0_1.neqs (setF (setF yv16 a1_1.at'.toNat a1_1.to') a1_1.to'.toNat a1_1.at')) fun yv18=>Comp.ret ((Zb.mk ((([]++a0_1.vars).set a1_1.at'.toNat x2).set a1_1.to'.toNat x4) yv17 yv18 a0_1.next),0)))) else (Comp.bind (Zgq a0_1 a1_1) fun yv19=>Comp.ret (yv19,0)))))))
def Zfm(bx1:Zb):Comp Zb:=
 Comp.ret bx1
def ZhG(l1:(List Zx))(most1:Int):(Int×Zb)→Comp Zb:=
 Comp.loop fun gs=>match gs with|(i1,bx2)=>if i1<(l1.length:Int) then (if i1<most1 then (Comp.at' l1 i1 fun x1=>Comp.bind (Zf2 bx2 x1) fun yv1=>Comp.bind (Zae bx2 yv1) fun yv2=>if yv2.2=0 then (Comp.ret (.inl (IntKind.i64.wrap (i1+1),yv2.1))) else (Comp.ret (.inl (IntKind.i64.wrap (i1+1),bx2)))) else (Comp.ret (.inr bx2))) else (Comp.ret (.inr bx2))
def Zh0(l1:(List Zx))(most1:Int):Comp Zb:=
 Comp.next (ZhG l1 most1 (0,(Zb.mk [] [] [] 1))) fun ov=>match ov with|bx1=>Zfm bx1
def ZgH(l1:(List Zd))(bx1:Zb):Comp Zt:=
 Comp.ret (Zt.mk bx1 (l1.length:Int) 0)
def Zmw(l1:(List Zd)):(Int×Zb×Zt)→Comp (Zt⊕(Zb×Zt)):=
 Comp.loop fun gs=>match gs with|(i1,bx3,bx4)=>if i1<(l1.length:Int) then (Comp.at' l1 i1 fun x1=>Comp.bind (Zae bx3 x1) fun yv1=>if ¬ yv1.2=0 then (Comp.ret (.inr (.inl (Zt.mk (Zb.mk [] [] [] 0) i1 yv1.2)))) else (Comp.ret (.inl (IntKind.i64.wrap (i1+1),yv1.1,bx4)))) else (Comp.ret (.inr (.inr (bx3,bx4))))
def Zol(s1:Zb)(l1:(List Zd)):Comp Zt:=
 Comp.next (Zmw l1 (0,s1,(Zt.mk (Zb.mk [] [] [] 0) 0 0))) fun ov=>match ov with | .inl rv1=>Comp.ret rv1 | .inr (bx1,bx2)=>ZgH l1 bx1
def ZdW(p1:(List Zc))(n1:Int):Comp Bool:=
 Comp.bind (ZeP p1) fun yv1=>match yv1 with|false=>(Comp.ret false)|true=>(Comp.bind (ZdV p1) fun yv2=>if yv2≤12 then (Comp.bind (Zc0 p1) fun yv3=>Comp.chk (0≤(IntKind.u64.wrap n1)) (Comp.ret (decide ((IntKind.i64.wrap yv3)<(IntKind.i64.wrap (1*2 ^ (min (IntKind.u64.wrap n1).toNat IntKind.i64.bits))))))) else (Comp.ret false))
def Zfl:Comp Bool:=
 Comp.ret true
def Zk6(l1:(List Za))(n1:Int)(next1:Int):Int→Comp (Bool⊕Unit):=
 Comp.loop fun gs=>match gs with|i1=>if i1<(l1.length:Int) then (Comp.at' l1 i1 fun x1=>if x1.id<1 then (Comp.ret (.inr (.inl false))) else (Comp.at' l1 i1 fun x2=>if next1≤x2.id then (Comp.ret (.inr (.inl false))) else (if 0<i1 then (Comp.at' l1 (IntKind.i64.wrap (i1-1)) fun x3=>Comp.at' l1 i1 fun x4=>if x4.id≤x3.id then (Comp.ret (.inr (.inl false))) else (Comp.at' l1 i1 fun x5=>Comp.bind (ZdW x5.p n1) fun yv1=>if (!yv1)=true then Comp.fail else (Comp.ret (.inl (IntKind.i64.wrap (i1+1)))))) else (Comp.at' l1 i1 fun x6=>Comp.bind (ZdW x6.p n1) fun yv2=>if (!yv2)=true then Comp.fail else (Comp.ret (.inl (IntKind.i64.wrap (i1+1)))))))) else (Comp.ret (.inr (.inr ())))
def Zeo(l1:(List Za))(n1:Int)(next1:Int):Comp Bool:=
 if 12<(l1.length:Int) then Comp.fail else (Comp.next (Zk6 l1 n1 next1 0) fun ov=>match ov with | .inl rv1=>Comp.ret rv1 | .inr ()=>Zfl)
def Zem:Comp Bool:=
 Comp.ret true
def Zen(v6_1:Int):Comp (Int⊕(Bool⊕Unit)):=
 Comp.ret (.inl (IntKind.i64.wrap (v6_1+1)))
def Zkg(a0_1:Zb)(v6_1:Int):Int→Comp (Bool⊕Unit):=
 Comp.loop fun gs=>match gs with|v7_1=>if v7_1<(a0_1.neqs.length:Int) then (Comp.at' a0_1.eqs v6_1 fun x1=>Comp.at' a0_1.neqs v7_1 fun x2=>if x1.id=x2.id then Comp.fail else (Comp.ret (.inl (IntKind.i64.wrap (v7_1+1))))) else (Comp.ret (.inr (.inr ())))
def Zkf(a0_1:Zb):Int→Comp (Bool⊕Unit):=
 Comp.loop fun gs=>match gs with|v6_1=>if v6_1<(a0_1.eqs.length:Int) then (Comp.next (Zkg a0_1 v6_1 0) fun ov=>match ov with | .inl rv2=>Comp.ret (.inr (.inl rv2)) | .inr ()=>Zen v6_1) else (Comp.ret (.inr (.inr ())))
def Zcv(a0_1:Zb):Comp Bool:=
 Comp.next (Zkf a0_1 0) fun ov=>match ov with | .inl rv1=>Comp.ret rv1 | .inr ()=>Zem
def Zcw(a0_1:Zb)(v4_1:Int):Comp (Int⊕(Bool⊕Unit)):=
 Comp.at' a0_1.vars v4_1 fun x3=>Comp.bind (Zc1 x3) fun yv1=>if (!yv1)=true then Comp.fail else (Comp.ret (.inl (IntKind.i64.wrap (v4_1+1))))
def Zki(a0_1:Zb)(v4_1:Int):Int→Comp (Bool⊕Unit):=
 Comp.loop fun gs=>match gs with|v5_1=>if v5_1<v4_1 then (Comp.at' a0_1.vars v4_1 fun x4=>Comp.at' a0_1.vars v5_1 fun x5=>if x4=x5 then Comp.fail else (Comp.ret (.inl (IntKind.i64.wrap (v5_1+1))))) else (Comp.ret (.inr (.inr ())))
def Zkh(a0_1:Zb):Int→Comp (Bool⊕Unit):=
 Comp.loop fun gs=>match gs with|v4_1=>if v4_1<(a0_1.vars.length:Int) then (Comp.next (Zki a0_1 v4_1 0) fun ov=>match ov with | .inl rv4=>Comp.ret (.inr (.inl rv4)) | .inr ()=>Zcw a0_1 v4_1) else (Comp.ret (.inr (.inr ())))
def ZgG(a0_1:Zb):Comp Bool:=
 Comp.next (Zkh a0_1 0) fun ov=>match ov with | .inl rv3=>Comp.ret rv3 | .inr ()=>Zcv a0_1
def ZeQ(a0_1:Zb):Comp Bool:=
 if 4<(a0_1.vars.length:Int) then (Comp.ret false) else (if a0_1.next<1 then (Comp.ret false) else (if 1000000<a0_1.next then (Comp.ret false) else (Comp.bind (Zeo a0_1.eqs (a0_1.vars.length:Int) a0_1.next) fun yv2=>match yv2 with|false=>(Comp.ret false)|true=>(Comp.bind (Zeo a0_1.neqs (a0_1.vars.length:Int) a0_1.next) fun yv3=>if (!yv3)=true then Comp.fail else (ZgG a0_1)))))
def Zdc(n1:Int):Comp Zf:=
 Comp.bind (Z5 (IntKind.i64.wrap ((Int.tmod n1 11)-5))) fun yv1=>Comp.ret yv1
def Zjg(name1:ByteArray):(Int×Int)→Comp Int:=
 Comp.loop fun gs=>match gs with|(n2,i1)=>if i1<(name1.size:Int) then (Comp.chk (0≤(i1:Int)∧i1<(name1.size:Int)) (Comp.ret (.inl (IntKind.i64.wrap ((IntKind.i64.wrap (n2*7))+(Int.tmod (IntKind.i64.wrap (byteAt name1 i1)) 13)),IntKind.i64.wrap (i1+1))))) else (Comp.ret (.inr n2))
def Zb2(name1:ByteArray):Comp Zf:=
 Comp.next (Zjg name1 (0,0)) fun ov=>match ov with|n1=>Zdc n1
def Zdb(bx1:(List Zf)):Comp (List Zf):=
 Comp.ret bx1
def Zjf(s1:Zb):(Int×(List Zf))→Comp (List Zf):=
 Comp.loop fun gs=>match gs with|(i1,bx2)=>if i1<8 then (Comp.bind (Z5 0) fun yv1=>Comp.at' bx2 i1 fun x1=>if i1<(s1.vars.length:Int) then (Comp.at' s1.vars i1 fun x2=>Comp.bind (Zb2 x2) fun yv2=>Comp.at' (bx2.set i1.toNat yv1) i1 fun x3=>Comp.ret (.inl (IntKind.i64.wrap (i1+1),(bx2.set i1.toNat yv1).set i1.toNat yv2))) else (Comp.ret (.inl (IntKind.i64.wrap (i1+1),bx2.set i1.toNat yv1)))) else (Comp.ret (.inr bx2))
def Zdr(s1:Zb):Comp (List Zf):=
 Comp.next (Zjf s1 (0,(List.replicate 8 (Zf.mk (Zg.mk false []) (Zg.mk false []))))) fun ov=>match ov with|bx1=>Zdb bx1
def Zel(bx1:Zf):Comp Zf:=
 Comp.ret bx1
def Zke(x1:Zf)(n1:Int):(Int×Zf)→Comp Zf:=
 Comp.loop fun gs=>match gs with|(k1,bx2)=>if k1<n1 then (Comp.bind (Zd6 bx2 x1) fun yv2=>Comp.ret (.inl (IntKind.i64.wrap (k1+1),yv2))) else (Comp.ret (.inr bx2))
def ZgF(x1:Zf)(n1:Int):Comp Zf:=
 Comp.bind (Z5 1) fun yv1=>Comp.next (Zke x1 n1 (0,yv1)) fun ov=>match ov with|bx1=>Zel bx1
def Zfd(bx1:Zf):Comp Zf:=
 Comp.ret bx1
def Zfe(k1:Int)(bx2:Zf)(bx3:Zf):Comp ((Int×Zf)⊕Zf):=
 Comp.bind (Zd5 bx2 bx3) fun yv2=>Comp.ret (.inl (IntKind.i64.wrap (k1+1),yv2))
def ZhC(p1:(List Zc))(x1:(List Zf))(k1:Int):(Int×Zf)→Comp Zf:=
 Comp.loop fun gs=>match gs with|(i1,bx4)=>if i1<8 then (Comp.at' x1 i1 fun x3=>Comp.at' p1 k1 fun x4=>Comp.chk (0≤i1∧i1<8) (Comp.bind (ZgF x3 (getF x4.m i1)) fun yv3=>Comp.bind (Zd6 bx4 yv3) fun yv4=>Comp.ret (.inl (IntKind.i64.wrap (i1+1),yv4)))) else (Comp.ret (.inr bx4))
def Zk1(p1:(List Zc))(x1:(List Zf)):(Int×Zf)→Comp Zf:=
 Comp.loop fun gs=>match gs with|(k1,bx2)=>if k1<(p1.length:Int) then (Comp.at' p1 k1 fun x2=>Comp.next (ZhC p1 x1 k1 (0,x2.c)) fun ov=>match ov with|bx3=>Zfe k1 bx2 bx3) else (Comp.ret (.inr bx2))
def ZfZ(p1:(List Zc))(x1:(List Zf)):Comp Zf:=
 Comp.bind (Z5 0) fun yv1=>Comp.next (Zk1 p1 x1 (0,yv1)) fun ov=>match ov with|bx1=>Zfd bx1
def Zda:Comp Bool:=
 Comp.ret true
def Zje(a1:(List Za))(b1:(List Za))(x1:(List Zf))(yv1:(List Zf)):Int→Comp (Bool⊕Unit):=
 Comp.loop fun gs=>match gs with|i1=>if i1<(a1.length:Int) then (Comp.at' a1 i1 fun x2=>Comp.at' b1 i1 fun x3=>if ¬ x2.id=x3.id then (Comp.ret (.inr (.inl false))) else (Comp.at' a1 i1 fun x4=>Comp.bind (ZfZ x4.p x1) fun yv2=>Comp.at' b1 i1 fun x5=>Comp.bind (ZfZ x5.p yv1) fun yv3=>Comp.bind (Zef yv2 yv3) fun yv4=>if (!yv4)=true then Comp.fail else (Comp.ret (.inl (IntKind.i64.wrap (i1+1)))))) else (Comp.ret (.inr (.inr ())))
def ZaB(a1:(List Za))(b1:(List Za))(x1:(List Zf))(yv1:(List Zf)):Comp Bool:=
 if ¬ (a1.length:Int)=(b1.length:Int) then Comp.fail else (Comp.next (Zje a1 b1 x1 yv1 0) fun ov=>match ov with | .inl rv1=>Comp.ret rv1 | .inr ()=>Zda)
def ZaX(yv1:Bool):Comp Bool:=
 Comp.ret yv1
def Zao(yv2:Zb)(v12_1:Int)(yv3:Zb×Int)(yv7:(List Zf))(bx1:(List Zf)):Comp (Int⊕(Bool⊕Unit)):=
 Comp.bind (ZeQ yv3.1) fun yv8=>match yv8 with|false=>(Comp.ret (.inr (.inl false)))|true=>(Comp.bind (ZaB yv2.eqs yv3.1.eqs bx1 yv7) fun yv9=>match yv9 with|false=>(Comp.ret (.inr (.inl false)))|true=>(Comp.bind (ZaB yv2.neqs yv3.1.neqs bx1 yv7) fun yv10=>if (!yv10)=true then Comp.fail else (Comp.ret (.inl (IntKind.i64.wrap (v12_1+1))))))
def Zb1(a1_1:Int)(a2_1:Int)(yv2:Zb)(x1:ByteArray):Int→Comp (Bool⊕Unit):=
 Comp.loop fun gs=>match gs with|v12_1=>if v12_1<([(Zd.mk 1 x1 (Int.tmod (IntKind.i64.wrap a1_1) (IntKind.i64.wrap ((yv2.vars.length:Int)+1))) 0 0 [] false),(Zd.mk 2 ByteArray.empty (Int.tmod (IntKind.i64.wrap a1_1) (IntKind.i64.wrap ((yv2.vars.length:Int)+1))) 0 0 [] false),(Zd.mk 4 ByteArray.empty (Int.tmod (IntKind.i64.wrap a1_1) (IntKind.i64.wrap ((yv2.vars.length:Int)+1))) (Int.tmod (IntKind.i64.wrap a2_1) (IntKind.i64.wrap ((yv2.vars.length:Int)+1))) 0 [] false),(Zd.mk 3 x1 (Int.tmod (IntKind.i64.wrap a1_1) (IntKind.i64.wrap ((yv2.vars.length:Int)+1))) 0 0 [] false)].length:Int) then (Comp.at' [(Zd.mk 1 x1 (Int.tmod (IntKind.i64.wrap a1_1) (IntKind.i64.wrap ((yv2.vars.length:Int)+1))) 0 0 [] false),(Zd.mk 2 ByteArray.empty (Int.tmod (IntKind.i64.wrap a1_1) (IntKind.i64.wrap ((yv2.vars.length:Int)+1))) 0 0 [] false),(Zd.mk 4 ByteArray.empty (Int.tmod (IntKind.i64.wrap a1_1) (IntKind.i64.wrap ((yv2.vars.length:Int)+1))) (Int.tmod (IntKind.i64.wrap a2_1) (IntKind.i64.wrap ((yv2.vars.length:Int)+1))) 0 [] false),(Zd.mk 3 x1 (Int.tmod (IntKind.i64.wrap a1_1) (IntKind.i64.wrap ((yv2.vars.length:Int)+1))) 0 0 [] false)] v12_1 fun x2=>Comp.bind (Zbi yv2 x2) fun yv3=>if ¬ yv3.2=0 then (Comp.ret (.inl (IntKind.i64.wrap (v12_1+1)))) else (Comp.bind (Zdr yv2) fun yv6=>Comp.bind (Zdr yv3.1) fun yv7=>Comp.at' [(Zd.mk 1 x1 (Int.tmod (IntKind.i64.wrap a1_1) (IntKind.i64.wrap ((yv2.vars.length:Int)+1))) 0 0 [] false),(Zd.mk 2 ByteArray.empty (Int.tmod (IntKind.i64.wrap a1_1) (IntKind.i64.wrap ((yv2.vars.length:Int)+1))) 0 0 [] false),(Zd.mk 4 ByteArray.empty (Int.tmod (IntKind.i64.wrap a1_1) (IntKind.i64.wrap ((yv2.vars.length:Int)+1))) (Int.tmod (IntKind.i64.wrap a2_1) (IntKind.i64.wrap ((yv2.vars.length:Int)+1))) 0 [] false),(Zd.mk 3 x1 (Int.tmod (IntKind.i64.wrap a1_1) (IntKind.i64.wrap ((yv2.vars.length:Int)+1))) 0 0 [] false)] v12_1 fun x3=>if x3.kind=3 then (Comp.at' [(Zd.mk 1 x1 (Int.tmod (IntKind.i64.wrap a1_1) (IntKind.i64.wrap ((yv2.vars.length:Int)+1))) 0 0 [] false),(Zd.mk 2 ByteArray.empty (Int.tmod (IntKind.i64.wrap a1_1) (IntKind.i64.wrap ((yv2.vars.length:Int)+1))) 0 0 [] false),(Zd.mk 4 ByteArray.empty (Int.tmod (IntKind.i64.wrap a1_1) (IntKind.i64.wrap ((yv2.vars.length:Int)+1))) (Int.tmod (IntKind.i64.wrap a2_1) (IntKind.i64.wrap ((yv2.vars.length:Int)+1))) 0 [] false),(Zd.mk 3 x1 (Int.tmod (IntKind.i64.wrap a1_1) (IntKind.i64.wrap ((yv2.vars.length:Int)+1))) 0 0 [] false)] v12_1 fun x4=>Comp.bind (Zb2 x1) fun yv11=>Comp.at' yv6 x4.at' fun x5=>Zao yv2 v12_1 yv3 yv7 (yv6.set x4.at'.toNat yv11)) else (Zao yv2 v12_1 yv3 yv7 yv6))) else (Comp.ret (.inr (.inr ())))
def ZcT(a0_1:(List Zx))(a1_1:Int)(a2_1:Int):Comp Bool:=
 Comp.bind (ZeA) fun yv1=>if (!yv1)=true then Comp.fail else (Comp.bind (Zh0 a0_1 12) fun yv2=>Comp.at' [Zn,ZH,ZA,Zu,ZU] (Int.tmod a2_1 5) fun x1=>Comp.chk ((IntKind.i64.wrap ((yv2.vars.length:Int)+1))≠0) (Comp.chk ((IntKind.i64.wrap ((yv2.vars.length:Int)+1))≠0) (Comp.chk ((IntKind.i64.wrap ((yv2.vars.length:Int)+1))≠0) (Comp.chk ((IntKind.i64.wrap ((yv2.vars.length:Int)+1))≠0) (Comp.chk ((IntKind.i64.wrap ((yv2.vars.length:Int)+1))≠0) (Comp.next (Zb1 a1_1 a2_1 yv2 x1 0) fun ov=>match ov with | .inl rv1=>Comp.ret rv1 | .inr ()=>ZaX yv1))))))
end Go.EL

namespace Go.EL
open Go
namespace Comp
variable {α β σ ρ:Type}
theorem wp_ret{a:α}{p:α→Prop}:(Comp.ret a).wp p↔p a:=Iff.rfl
theorem Ze{q:Prop}[Decidable q]{c d:Comp α}{p:α→Prop}:(if q then c else d).wp p↔if q then c.wp p else d.wp p:=by split <;> rfl
theorem ZnW{A:σ→Prop}{Φ:ρ→Prop}{s:σ}:Out A Φ (.inl s)↔A s:=Iff.rfl
theorem Ret.then{c:Comp α}{a:α}(h:c.Ret a){p:α→Prop}(hp:p a):c.wp p:=c.mono (fun b e=>by rw[e]; exact hp) h
end Comp
theorem wrap64{x:Int}(h:-9223372036854775808≤x∧x≤9223372036854775807):IntKind.i64.wrap x=x:=IntWalk.i64_in _ h
theorem getF8{a:Fin 8→Int}{i:Int}(h:0≤i∧i<8):getF a i=a ⟨i.toNat,by omega⟩:=ZfI a (by omega)
end Go.EL
namespace Go.EL
open Go
theorem ZeD(a b:M):(ZbJ a b).Ret (cmpM a b):=by
 unfold ZbJ
 by_cases h:a=b
 ·rw[if_pos h]
  subst h
  exact (ZgM a).symm
 ·rw[if_neg h]
  have hne:∀ k:Nat,k≤8→(∀ j:Fin 8,j.val<k→a j=b j)→k<8:=fun k hk hj=>by
   rcases Nat.lt_or_ge k 8 with h1|h1
   ·exact h1
   ·exact absurd (funext fun j=>hj j (by omega)) h
  refine Comp.ZeC (I:=fun i:Int=>0≤i∧i<8∧∀ j:Fin 8,(j.val:Int)<i→a j=b j) (m:=fun i=>(8-i).toNat) (fun i hi=>?_) 0 ⟨by omega,by omega,fun j hj=>by omega⟩
  obtain⟨h0,h8,hj⟩:=hi
  refine⟨⟨h0,h8⟩,⟨h0,h8⟩,?_⟩
  rw[Comp.Ze,getF8 ⟨h0,h8⟩,getF8 ⟨h0,h8⟩]
  split
  ·rename_i e
   have hj':∀ j:Fin 8,(j.val:Int)<i+1→a j=b j:=fun j hj1=>by
    by_cases h2:(j.val:Int)<i
    ·exact hj j h2
    ·have:j=⟨i.toNat,by omega⟩:=Fin.ext (by simp; omega)
     rw[this]; exact e
   have:=hne (i+1).toNat (by omega) (fun j hj1=>hj' j (by omega))
   rw[Comp.wp_ret,Comp.ZnW,wrap64 (by omega)]
   exact⟨⟨by omega,by omega,hj'⟩,by omega⟩
  ·rename_i e
   refine⟨⟨h0,h8⟩,⟨h0,h8⟩,?_⟩
   rw[Comp.Ze,getF8 ⟨h0,h8⟩,getF8 ⟨h0,h8⟩]
   have hk:i.toNat<8:=by omega
   split
   ·rename_i e2
    exact (Zlw a b hk (fun j hj1=>hj j (by omega)) e2).symm
   ·rename_i e2
    exact (Zlv a b hk (fun j hj1=>hj j (by omega)) (by omega)).symm
end Go.EL

namespace Go.EL
open Go
instance decInt:DecidableEq Zg:=fun ⟨a1,a2⟩ ⟨b1,b2⟩=>decidable_of_iff (a1=b1∧a2=b2) (by simp)
instance decRat:DecidableEq Zf:=fun ⟨a1,a2⟩ ⟨b1,b2⟩=>decidable_of_iff (a1=b1∧a2=b2) (by simp)
def ratI(n:Int):Zf:=⟨⟨decide (n<0),if n=0 then [] else [(n.natAbs:Int)]⟩,⟨false,[1]⟩⟩
def between(l h:Int)(p:Int→Bool):Bool:=(List.range (h-l+1).toNat).all fun k=>p (l+(k:Int))
theorem ZO{l h:Int}{p:Int→Bool}(hb:between l h p=true){x:Int}(h1:l≤x)(h2:x≤h):p x=true:=by
 have:=List.all_eq_true.1 hb (x-l).toNat (List.mem_range.2 (by omega))
 rwa [show l+((x-l).toNat:Int)=x by omega] at this
def runs{α:Type}[DecidableEq α](n:Nat)(c:Comp α)(a:α):Bool:=decide (c.ev n=some a)
theorem Z4{α:Type}[DecidableEq α]{n:Nat}{c:Comp α}{a:α}(h:runs n c a=true):c.Ret a:=Comp.Ret.ZcL n (of_decide_eq_true h)
theorem Znh:(between (-8) 8 fun n=>runs 20 (Z5 n) (ratI n))=true:=by decide +kernel
theorem ZnY:(between (-12) 12 fun a=>between (-3) 3 fun b=>runs 30 (Zd5 (ratI a) (ratI b)) (ratI (a+b)))=true:=by decide +kernel
theorem Zod:(between (-3) 3 fun a=>runs 30 (Zd6 (ratI a) (ratI 1)) (ratI a))=true:=by decide +kernel
theorem Zik:(between (-15) 15 fun a=>runs 30 (ZbB (ratI a)) (if a<0 then -1 else if a=0 then 0 else 1))=true:=by decide +kernel
theorem Zne:(between (-15) 15 fun a=>a == 0 || runs 30 (ZeL (ratI a)) true)=true:=by decide +kernel
theorem ZnI:(between (-12) 12 fun a=>a == 0 || runs 30 (Zef (ratI a) (ratI a)) true)=true:=by decide +kernel
theorem ZmU:(between (-12) 12 fun a=>a == 0 || runs 30 (Zaw (ratI a)) (if a<0 then -1 else if a=0 then 0 else 1))=true:=by decide +kernel
theorem Zmk:(between (-12) 12 fun a=>a == 0 || runs 30 (ZbV (ratI a)) true)=true:=by decide +kernel
theorem ZnG:(between (-12) 12 fun a=>a == 0 || between (-12) 12 fun b=>b == 0 || runs 30 (ZbN (ratI a) (ratI b)) (if a<b then -1 else if a=b then 0 else 1))=true:=by decide +kernel
end Go.EL

namespace Go.EL
open Go Go.RowKit
instance inhM:Inhabited M:=⟨fun _=>0⟩
def mixM(k:Nat)(f a:M):M:=fun i=>if i.val<k then f i else a i
theorem ZnA{k:Nat}(f a:M)(h:k<8):setF (mixM k f a) k (f ⟨k,h⟩)=mixM (k+1) f a:=by
 funext i; unfold setF mixM
 by_cases e:i.val=k
 ·have:i=⟨k,h⟩:=Fin.ext e
  subst this; simp
 ·have e1:(i.val<k+1)=(i.val<k):=by apply propext; omega
  simp[e,e1]
theorem ZoK{k:Nat}(f a:M)(h:k<8):mixM k f a ⟨k,h⟩=a ⟨k,h⟩:=by unfold mixM; simp
theorem ZnB(f a:M):mixM 0 f a=a:=by funext i; simp[mixM]
theorem Zoc{k:Nat}(f a:M)(h:¬ k<8):mixM k f a=f:=by
 funext i
 have:i.val<k:=by omega
 simp[mixM,this]
theorem Znn{p:Fin 8→Prop}{k:Nat}(hall:∀ i:Fin 8,i.val<k→p i)(h:k<8)(hk:p ⟨k,h⟩):∀ i:Fin 8,i.val<k+1→p i:=fun i hi=>by
 by_cases e:i.val=k
 ·have:i=⟨k,h⟩:=Fin.ext e
  rw[this]; exact hk
 ·exact hall i (by omega)
def Ok(a:M):Prop:=∀ i,0≤a i∧a i≤65535
instance decOk (a:M):Decidable (Ok a):=inferInstanceAs (Decidable (∀ i,0≤a i∧a i≤65535))
def p2:Nat→Int
 | 0=>1
 | k+1=>2*p2 k
theorem ZoQ:∀ {k:Nat},k≤8→1≤p2 k∧p2 k≤256
 | 0,_=>by decide
 | 1,_=>by decide
 | 2,_=>by decide
 | 3,_=>by decide
 | 4,_=>by decide
 | 5,_=>by decide
 | 6,_=>by decide
 | 7,_=>by decide
 | 8,_=>by decide
 | k+9,h=>by omega
theorem Zj5{k:Nat}(h:k<8):1≤p2 k∧p2 k≤128:=by
 have:=ZoQ (k:=k+1) (by omega)
 simp only[p2] at this
 omega
theorem ZkC{k:Nat}(h:k<8):IntKind.u8.wrap (1*2 ^ (min (k:Int).toNat IntKind.u8.bits))=p2 k:=by
 match k,h with
 | 0,_=>decide|1,_=>decide|2,_=>decide|3,_=>decide|4,_=>decide|5,_=>decide|6,_=>decide|7,_=>decide
theorem Zof{k:Nat}(h:k<8):IntKind.u8.wrap (p2 k)=p2 k:=by
 match k,h with
 | 0,_=>decide|1,_=>decide|2,_=>decide|3,_=>decide|4,_=>decide|5,_=>decide|6,_=>decide|7,_=>decide
def suppTo(a:M):Nat→Int
 | 0=>0
 | k+1=>suppTo a k+(if h:k<8 then (if 0<a ⟨k,h⟩ then p2 k else 0) else 0)
def suppM(a:M):Int:=suppTo a 8
theorem ZdB(a:M):∀ k:Nat,0≤suppTo a k∧suppTo a k<p2 k
 | 0=>by simp[suppTo,p2]
 | k+1=>by
  have ih:=ZdB a k
  simp only[suppTo,p2]
  split
  ·split <;> omega
  ·omega
theorem ZiS(a:M){k:Nat}(h:k<8)(ha:0<a ⟨k,h⟩):suppTo a k+p2 k=suppTo a (k+1):=by simp[suppTo,h,ha]
theorem ZjI(a:M){k:Nat}(h:k<8)(ha:¬ 0<a ⟨k,h⟩):suppTo a k=suppTo a (k+1):=by simp[suppTo,h,ha]
theorem ZmP:∀ k:Fin 8,∀ s:Fin 128,s.val<2 ^ k.val→IntKind.u8.wrap (BitVec.ofInt IntKind.u8.bits (s.val:Int) ||| BitVec.ofInt IntKind.u8.bits (p2 k.val)).toNat=s.val+p2 k.val:=by decide +kernel
theorem ZdA:∀ k:Nat,p2 k=((2 ^ k:Nat):Int)
 | 0=>rfl
 | k+1=>by rw[p2,ZdA k,Nat.pow_succ]; omega
theorem ZoP{k:Nat}(h:k<8){s:Int}(h0:0≤s)(h1:s<p2 k):IntKind.u8.wrap (BitVec.ofInt IntKind.u8.bits s ||| BitVec.ofInt IntKind.u8.bits (p2 k)).toNat=s+p2 k:=by
 obtain⟨n,rfl⟩:=Int.eq_ofNat_of_zero_le h0
 have h2:=Zj5 h
 rw[ZdA] at h1
 exact ZmP ⟨k,h⟩ ⟨n,by rw[ZdA] at h2; omega⟩ (by simp; omega)
theorem Zom{k:Nat}(h:k<8){s:Int}(h0:0≤s)(h1:s<p2 k):IntKind.u8.wrap (s+p2 k)=s+p2 k:=by
 have h2:=Zj5 h
 simp only[IntKind.wrap,IntKind.bits,IntKind.signed,Bool.false_and,Bool.false_eq_true,if_false]
 omega
theorem Comp.Zh{σ ρ:Type}{step:σ→Comp (σ⊕ρ)}{Φ:ρ→Prop}(n:Nat)(I:Nat→σ→Prop)(h:∀ k s,k<n→I k s→(step s).wp (Out (fun s'=>I (k+1) s') Φ))(hend:∀ s,I n s→(step s).wp (Out (fun _=>False) Φ)):
  ∀ {s:σ},I 0 s→(Comp.loop step s).wp Φ:=by
 have key:∀ d k s,k+d=n→I k s→(Comp.loop step s).wp Φ:=by
  intro d
  induction d with
  | zero=>intro k s hk hs; rw[Nat.add_zero] at hk; subst hk; exact Comp.Zm ((step s).mono (Out.mono (fun _ h=>h.elim) (fun _ x=>x)) (hend s hs))
  | succ d ih=>intro k s hk hs; exact Comp.Zm ((step s).mono (Out.mono (fun s' h'=>ih (k+1) s' (by omega) h') (fun _ x=>x)) (h k s (by omega) hs))
 exact fun {s} hs=>key n 0 s (by omega) hs
theorem wrapN{k:Nat}(h:k<1000000000000):IntKind.i64.wrap ((k:Int)+1)=((k+1:Nat):Int):=by rw[wrap64 (by omega)]; simp
theorem idxN{α:Type}{l:List α}{k:Nat}(h:k<l.length):(0:Int)≤(k:Int)∧l[(k:Int).toNat]? = some l[k]:=⟨by omega,by simp[h]⟩
theorem getFN{a:M}{k:Nat}(h:k<8):getF a (k:Int)=a ⟨k,h⟩:=by rw[getF8 (by omega)]; rfl
theorem Zlb(m:M):(Zb9 m).Ret (suppM m):=by
 show (Comp.loop _ _).wp _
 refine Comp.Zh 8 (fun k s=>s=(suppTo m k,(k:Int))) (fun k s hk hs=>?_) (fun s hs=>?_) rfl
 ·subst hs
  show (if (k:Int)<8 then _ else _:Comp _).wp _
  rw[Comp.Ze,if_pos (by omega)]
  refine⟨by omega,?_⟩
  rw[Comp.Ze,getFN hk]
  have hb:=ZdB m k
  split
  ·rename_i h
   refine⟨by omega,?_⟩
   show _=_
   rw[wrapN (by omega),ZkC hk,ZoP hk hb.1 hb.2,ZiS m hk h]
  ·rename_i h
   show _=_
   rw[wrapN (by omega),ZjI m hk h]
 ·subst hs
  show (if ((8:Nat):Int)<8 then _ else _:Comp _).wp _
  rw[Comp.Ze,if_neg (by omega)]
  rfl
theorem Zfb(a b:M):(ZfE a b).Ret (cmpM a b):=by
 refine Comp.Zh 8 (fun k s=>s=(k:Int)∧∀ i:Fin 8,i.val<k→a i=b i) (fun k s hk hs=>?_) (fun s hs=>?_) ⟨rfl,fun i hi=>by omega⟩
 ·obtain⟨rfl,hi⟩:=hs
  rw[Comp.Ze,if_pos (by omega)]
  refine⟨by omega,by omega,?_⟩
  rw[Comp.Ze,getFN hk,getFN hk]
  split
  ·rename_i h
   show _=_
   exact (Zlw a b hk hi h).symm
  ·rename_i h
   refine⟨by omega,by omega,?_⟩
   rw[Comp.Ze]
   split
   ·rename_i h2
    show _=_
    exact (Zlv a b hk hi h2).symm
   ·exact⟨wrapN (by omega),Znn hi hk (by omega)⟩
 ·obtain⟨rfl,hi⟩:=hs
  rw[Comp.Ze,if_neg (by omega)]
  show _=_
  exact (Zlu a b (fun i=>hi i i.isLt)).symm
theorem ZkY{i:Nat}(hi:i<8):(Zi2 (i:Int)).Ret (p2 i):=by
 refine Comp.Zh i (fun k s=>s=(p2 k,(k:Int))) (fun k s hk hs=>?_) (fun s hs=>?_) rfl
 ·subst hs
  show (if (k:Int)<(i:Int) then _ else _:Comp _).wp _
  have:=Zj5 (k:=k) (by omega)
  rw[Comp.Ze,if_pos (by omega)]
  show _=_
  rw[wrapN (by omega),wrap64 (by omega)]; rfl
 ·subst hs
  show (if (i:Int)<(i:Int) then _ else _:Comp _).wp _
  rw[Comp.Ze,if_neg (by omega)]
  exact Zof hi
theorem Zit(m:M):(Zfc m).Ret (suppM m):=by
 refine Comp.Zh 8 (fun k s=>s=(suppTo m k,(k:Int))) (fun k s hk hs=>?_) (fun s hs=>?_) rfl
 ·subst hs
  have h1:=ZdB m k
  show (if (k:Int)<8 then _ else _:Comp _).wp _
  rw[Comp.Ze,if_pos (by omega)]
  refine⟨by omega,?_⟩
  rw[Comp.Ze,getFN hk]
  split
  ·rename_i hp
   refine⟨_,ZkY hk,?_⟩
   show _=_
   rw[wrapN (by omega),Zom hk h1.1 h1.2,ZiS m hk hp]
  ·rename_i hp
   show _=_
   rw[wrapN (by omega),ZjI m hk hp]
 ·subst hs
  show (if ((8:Nat):Int)<8 then _ else _:Comp _).wp _
  rw[Comp.Ze,if_neg (by omega)]
  rfl
theorem Zgn{m:M}(h:Ok m):(ZeN m).Ret true:=by
 refine Comp.Zh 8 (fun k s=>s=(k:Int)) (fun k s hk hs=>?_) (fun s hs=>?_) rfl
 ·subst hs
  have:=h ⟨k,hk⟩
  rw[Comp.Ze,if_pos (by omega)]
  refine⟨by omega,?_⟩
  rw[Comp.Ze,getFN hk,if_neg (by omega)]
  refine⟨by omega,?_⟩
  rw[Comp.Ze,if_neg (by omega)]
  exact wrapN (by omega)
 ·subst hs
  rw[Comp.Ze,if_neg (by omega)]
  rfl
theorem Zmz{m:M}(h:Ok m):(Zdd m).Ret true:=by
 refine Comp.Zh 8 (fun k s=>s=(k:Int)) (fun k s hk hs=>?_) (fun s hs=>?_) rfl
 ·subst hs
  have:=h ⟨k,hk⟩
  show (if (k:Int)<8 then _ else _:Comp _).wp _
  rw[Comp.Ze,if_pos (by omega)]
  refine⟨by omega,?_⟩
  rw[Comp.Ze,getFN hk,if_neg (by omega),Comp.Ze,if_neg (by omega)]
  exact wrapN (by omega)
 ·subst hs
  show (if ((8:Nat):Int)<8 then _ else _:Comp _).wp _
  rw[Comp.Ze,if_neg (by omega)]
  rfl
def degTo(m:M):Nat→Int
 | 0=>0
 | k+1=>degTo m k+(if h:k<8 then m ⟨k,h⟩ else 0)
def degM(m:M):Int:=degTo m 8
theorem Zf5{m:M}(h:Ok m):∀ k:Nat,0≤degTo m k∧degTo m k≤65535*k
 | 0=>by simp[degTo]
 | k+1=>by
  have ih:=Zf5 h k
  simp only[degTo]
  split
  ·rename_i hk; have:=h ⟨k,hk⟩; omega
  ·omega
theorem Zi3{m:M}(h:Ok m):(ZfV m).Ret (degM m):=by
 refine Comp.Zh 8 (fun k s=>s=(degTo m k,(k:Int))) (fun k s hk hs=>?_) (fun s hs=>?_) rfl
 ·subst hs
  have h1:=Zf5 h k
  have h2:=h ⟨k,hk⟩
  show (if (k:Int)<8 then _ else _:Comp _).wp _
  rw[Comp.Ze,if_pos (by omega)]
  refine⟨by omega,?_⟩
  show _=_
  rw[wrapN (by omega),getFN hk,wrap64 (by omega),degTo,dif_pos hk]
 ·subst hs
  show (if ((8:Nat):Int)<8 then _ else _:Comp _).wp _
  rw[Comp.Ze,if_neg (by omega)]
  rfl
theorem ZlU{m:M}(h:Ok m):(ZcK m).Ret (degM m):=by
 refine Comp.Zh 8 (fun k s=>s=(degTo m k,(k:Int))) (fun k s hk hs=>?_) (fun s hs=>?_) rfl
 ·subst hs
  have h1:=Zf5 h k
  have h2:=h ⟨k,hk⟩
  show (if (k:Int)<8 then _ else _:Comp _).wp _
  rw[Comp.Ze,if_pos (by omega)]
  refine⟨by omega,?_⟩
  show _=_
  rw[wrapN (by omega),getFN hk,wrap64 (by omega),degTo,dif_pos hk]
 ·subst hs
  show (if ((8:Nat):Int)<8 then _ else _:Comp _).wp _
  rw[Comp.Ze,if_neg (by omega)]
  rfl
def mulM(a b:M):M:=fun i=>a i+b i
theorem ZkZ{a b:M}(ha:Ok a)(hb:Ok b)(hab:Ok (mulM a b)):(Zi4 a b).Ret (mulM a b,0):=by
 show (Comp.next _ _).wp _
 refine Comp.Zh 8 (fun k s=>s=((k:Int),mixM k (mulM a b) a)) (fun k s hk hs=>?_) (fun s hs=>?_) (by rw[ZnB]; rfl)
 ·subst hs
  have h1:=ha ⟨k,hk⟩
  have h2:=hb ⟨k,hk⟩
  rw[Comp.Ze,if_pos (by omega)]
  refine⟨by omega,by omega,by omega,?_⟩
  show _=_
  rw[wrapN (by omega),getFN hk,getFN hk,ZoK,wrap64 (by omega)]
  exact congrArg (Prod.mk _) (ZnA (mulM a b) a hk)
 ·subst hs
  rw[Comp.Ze,if_neg (by omega),Zoc _ _ (by omega)]
  exact⟨true,Zgn hab,rfl⟩
end Go.EL

namespace Go.EL
open Go Go.RowKit
structure TermOk (t:Zc):Prop where
 c:∃ c:Int,t.c=ratI c∧c≠0∧-12≤c∧c≤12
 m:Ok t.m
structure PolOk (p:List Zc):Prop where
 ord:p.Pairwise fun x y=>0<cmpM x.m y.m
 trm:∀ t ∈ p,TermOk t
 len:p.length≤100
theorem TermOk.rv{t:Zc}(h:TermOk t):(ZeL t.c).Ret true:=by
 obtain⟨⟨c,e,h0,h1,h2⟩,_⟩:=h
 have:=ZO Zne (x:=c) (by omega) (by omega)
 rw[e]
 exact Z4 (by simpa [h0] using this)
theorem TermOk.rs{t:Zc}(h:TermOk t):∃ s,(ZbB t.c).Ret s∧s≠0:=by
 obtain⟨⟨c,e,h0,h1,h2⟩,_⟩:=h
 have:=ZO Zik (x:=c) (by omega) (by omega)
 rw[e]
 exact⟨_,Z4 this,by split <;> omega⟩
theorem TermOk.pv{t:Zc}(h:TermOk t):(ZbV t.c).Ret true:=by
 obtain⟨⟨c,e,h0,h1,h2⟩,_⟩:=h
 have:=ZO Zmk (x:=c) (by omega) (by omega)
 rw[e]
 exact Z4 (by simpa [h0] using this)
theorem TermOk.ps{t:Zc}(h:TermOk t):∃ s,(Zaw t.c).Ret s∧s≠0:=by
 obtain⟨⟨c,e,h0,h1,h2⟩,_⟩:=h
 have:=ZO ZmU (x:=c) (by omega) (by omega)
 rw[e]
 refine⟨_,Z4 (by simpa [h0] using this),?_⟩
 split <;> first|omega|(split <;> omega)
theorem PolOk.at{p:List Zc}(h:PolOk p){k:Nat}(hk:k<p.length):TermOk p[k]:=h.trm _ (List.getElem_mem hk)
theorem PolOk.step{p:List Zc}(h:PolOk p){k:Nat}(hk:k+1<p.length):0<cmpM p[k].m p[k+1].m:=List.pairwise_iff_getElem.1 h.ord k (k+1) (by omega) hk (by omega)
theorem Zgo{p:List Zc}(h:PolOk p):(ZeP p).Ret true:=by
 have hl:=h.len
 refine Comp.Zh p.length (fun k s=>s=(k:Int)) (fun k s hk hs=>?_) (fun s hs=>?_) rfl
 ·subst hs
  have ht:=h.at hk
  obtain⟨s,h1,h2⟩:=ht.rs
  rw[Comp.Ze,if_pos (by omega)]
  refine⟨p[k],idxN hk,true,ht.rv,p[k],idxN hk,s,h1,?_⟩
  rw[Comp.Ze,if_neg h2]
  refine⟨p[k],idxN hk,true,Zgn ht.m,?_⟩
  rw[Comp.Ze,if_neg (by decide)]
  show (Zcu p (k:Int)).wp _
  unfold Zcu
  rw[Comp.Ze]
  split
  ·rename_i h0
   obtain⟨j,rfl⟩:∃ j,k=j+1:=⟨k-1,by omega⟩
   have hj:IntKind.i64.wrap (((j+1:Nat):Int)-1)=(j:Int):=by rw[wrap64 (by omega)]; omega
   rw[hj]
   refine⟨p[j],idxN (by omega),p[j+1],idxN hk,_,Zfb _ _,?_⟩
   have:=h.step hk
   rw[Comp.Ze,if_neg (by omega)]
   exact wrapN (by omega)
  ·exact wrapN (by omega)
 ·subst hs
  rw[Comp.Ze,if_neg (by omega)]
  rfl
theorem ZcM{p:List Zc}(h:PolOk p):(Zbm p).Ret true:=by
 have hl:=h.len
 refine Comp.Zh p.length (fun k s=>s=(k:Int)) (fun k s hk hs=>?_) (fun s hs=>?_) rfl
 ·subst hs
  have ht:=h.at hk
  obtain⟨s,h1,h2⟩:=ht.ps
  show (if (k:Int)<(p.length:Int) then _ else _:Comp _).wp _
  rw[Comp.Ze,if_pos (by omega)]
  refine⟨p[k],idxN hk,true,ht.pv,s,h1,?_⟩
  rw[Comp.Ze,if_neg h2]
  refine⟨true,Zmz ht.m,?_⟩
  rw[Comp.Ze,if_neg (by decide)]
  show (ZaL p (k:Int) p[k]).wp _
  unfold ZaL
  rw[Comp.Ze]
  split
  ·rename_i h0
   obtain⟨j,rfl⟩:∃ j,k=j+1:=⟨k-1,by omega⟩
   have hj:IntKind.i64.wrap (((j+1:Nat):Int)-1)=(j:Int):=by rw[wrap64 (by omega)]; omega
   rw[hj]
   refine⟨p[j],idxN (by omega),_,ZeD _ _,?_⟩
   have:=h.step hk
   rw[Comp.Ze,if_neg (by omega)]
   exact wrapN (by omega)
  ·exact wrapN (by omega)
 ·subst hs
  show (if ((p.length:Nat):Int)<(p.length:Int) then _ else _:Comp _).wp _
  rw[Comp.Ze,if_neg (by omega)]
  rfl
def usesTo(p:List Zc):Nat→Int
 | 0=>0
 | k+1=>IntKind.u8.wrap (BitVec.ofInt IntKind.u8.bits (usesTo p k) ||| BitVec.ofInt IntKind.u8.bits (match p[k]? with|some t=>suppM t.m|none=>0)).toNat
def usesP(p:List Zc):Int:=usesTo p p.length
def degPTo(p:List Zc):Nat→Int
 | 0=>-1
 | k+1=>match p[k]? with|some t=>if degPTo p k<degM t.m then degM t.m else degPTo p k|none=>degPTo p k
def degP(p:List Zc):Int:=degPTo p p.length
theorem Zct{p:List Zc}(hl:p.length≤100):(Zc0 p).Ret (usesP p):=by
 refine Comp.Zh p.length (fun k s=>s=(usesTo p k,(k:Int))) (fun k s hk hs=>?_) (fun s hs=>?_) rfl
 ·subst hs
  show (if (k:Int)<(p.length:Int) then _ else _:Comp _).wp _
  rw[Comp.Ze,if_pos (by omega)]
  refine⟨p[k],idxN hk,_,Zit _,?_⟩
  show _=_
  rw[wrapN (by omega)]
  simp only[usesTo,List.getElem?_eq_getElem hk]
 ·subst hs
  show (if ((p.length:Nat):Int)<(p.length:Int) then _ else _:Comp _).wp _
  rw[Comp.Ze,if_neg (by omega)]
  rfl
theorem Zh2{p:List Zc}(hl:p.length≤100):(ZaT p).Ret (usesP p):=by
 refine Comp.Zh p.length (fun k s=>s=(usesTo p k,(k:Int))) (fun k s hk hs=>?_) (fun s hs=>?_) rfl
 ·subst hs
  show (if (k:Int)<(p.length:Int) then _ else _:Comp _).wp _
  rw[Comp.Ze,if_pos (by omega)]
  refine⟨p[k],idxN hk,_,Zlb _,?_⟩
  show _=_
  rw[wrapN (by omega)]
  simp only[usesTo,List.getElem?_eq_getElem hk]
 ·subst hs
  show (if ((p.length:Nat):Int)<(p.length:Int) then _ else _:Comp _).wp _
  rw[Comp.Ze,if_neg (by omega)]
  rfl
theorem ZfF{p:List Zc}(h:PolOk p):(ZdV p).Ret (degP p):=by
 have hl:=h.len
 refine Comp.Zh p.length (fun k s=>s=(degPTo p k,(k:Int))) (fun k s hk hs=>?_) (fun s hs=>?_) rfl
 ·subst hs
  show (if (k:Int)<(p.length:Int) then _ else _:Comp _).wp _
  rw[Comp.Ze,if_pos (by omega)]
  refine⟨p[k],idxN hk,_,Zi3 (h.at hk).m,?_⟩
  show _=_
  rw[wrapN (by omega)]
  simp only[degPTo,List.getElem?_eq_getElem hk]
 ·subst hs
  show (if ((p.length:Nat):Int)<(p.length:Int) then _ else _:Comp _).wp _
  rw[Comp.Ze,if_neg (by omega)]
  rfl
theorem Zhy{p:List Zc}(h:PolOk p):(Za2 p).Ret (degP p):=by
 have hl:=h.len
 refine Comp.Zh p.length (fun k s=>s=(degPTo p k,(k:Int))) (fun k s hk hs=>?_) (fun s hs=>?_) rfl
 ·subst hs
  show (if (k:Int)<(p.length:Int) then _ else _:Comp _).wp _
  rw[Comp.Ze,if_pos (by omega)]
  refine⟨p[k],idxN hk,_,ZlU (h.at hk).m,?_⟩
  show _=_
  rw[wrapN (by omega)]
  simp only[degPTo,List.getElem?_eq_getElem hk]
 ·subst hs
  show (if ((p.length:Nat):Int)<(p.length:Int) then _ else _:Comp _).wp _
  rw[Comp.Ze,if_neg (by omega)]
  rfl
end Go.EL

namespace Go.EL
open Go Go.RowKit
def fitB(p:List Zc)(n:Int):Bool:=if (Int.fdiv (IntKind.i64.wrap (usesP p)) (2 ^ (min (n).toNat IntKind.i64.bits)))=0 then decide (degP p≤12) else false
theorem ZgI{p:List Zc}(h:PolOk p){n:Int}(hn:0≤n):(Zf3 p n).Ret (fitB p n):=by
 refine⟨true,Zgo h,_,Zct h.len,hn,?_⟩
 unfold fitB
 rw[Comp.Ze]
 split
 ·exact⟨_,ZfF h,rfl⟩
 ·rfl
theorem ZiV{p:List Zc}(h:PolOk p){n:Int}(hn:0≤n):(ZfA p n).Ret (fitB p n):=by
 refine⟨true,ZcM h,_,Zh2 h.len,hn,?_⟩
 unfold fitB
 rw[Comp.Ze]
 split
 ·exact⟨_,Zhy h,rfl⟩
 ·rfl
theorem ZiR(a:M):∀ k:Nat,k≤8→∀ i:Fin 8,(suppTo a k).toNat.testBit i.val=(decide (i.val<k) && decide (0<a i))
 | 0,_,i=>by simp[suppTo]
 | k+1,hk,i=>by
  have ih:=ZiR a k (by omega) i
  have hb:=ZdB a k
  have hk':k<8:=by omega
  rw[ZdA] at hb
  simp only[suppTo,dif_pos hk']
  by_cases hi:i.val=k
  ·have e:i=⟨k,hk'⟩:=Fin.ext hi
   subst e
   by_cases hp:0<a ⟨k,hk'⟩
   ·rw[if_pos hp,ZdA,show (suppTo a k+((2 ^ k:Nat):Int)).toNat=2 ^ k+(suppTo a k).toNat by omega,Nat.testBit_two_pow_add_eq,Nat.testBit_lt_two_pow (by omega)]
    simp[hp]
   ·rw[if_neg hp,Int.add_zero]
    show (suppTo a k).toNat.testBit k=_
    rw[Nat.testBit_lt_two_pow (by omega)]
    simp[hp]
  ·have e1:(decide (i.val<k+1))=decide (i.val<k):=by
    by_cases h:i.val<k
    ·simp[h,show i.val<k+1 by omega]
    ·simp[h,show ¬ i.val<k+1 by omega]
   rw[e1,← ih]
   by_cases hp:0<a ⟨k,hk'⟩
   ·rw[if_pos hp,ZdA,show (suppTo a k+((2 ^ k:Nat):Int)).toNat=2 ^ k+(suppTo a k).toNat by omega]
    by_cases h:i.val<k
    ·rw[Nat.testBit_two_pow_add_gt h]
    ·rw[Nat.testBit_lt_two_pow (x:=(suppTo a k).toNat) (Nat.lt_of_lt_of_le (by omega:(suppTo a k).toNat<2 ^ k) (Nat.pow_le_pow_right (by omega) (by omega)))]
     refine Nat.testBit_lt_two_pow (Nat.lt_of_lt_of_le (by have:=hb.2; omega:2 ^ k+(suppTo a k).toNat<2 ^ (k+1)) (Nat.pow_le_pow_right (by omega) (by omega)))
   ·rw[if_neg hp,Int.add_zero]
theorem Zm6(a:M)(i:Fin 8):(suppM a).toNat.testBit i.val=decide (0<a i):=by
 unfold suppM
 rw[ZiR a 8 (by omega)]
 simp[i.isLt]
theorem ZkP(a:M):0≤suppM a∧suppM a<256:=ZdB a 8
theorem ZnQ{a b:Nat}(ha:a<256)(hb:b<256):IntKind.u8.wrap (BitVec.ofInt IntKind.u8.bits (a:Int) ||| BitVec.ofInt IntKind.u8.bits (b:Int)).toNat=((a ||| b:Nat):Int):=by
 have h:(BitVec.ofInt IntKind.u8.bits (a:Int) ||| BitVec.ofInt IntKind.u8.bits (b:Int)).toNat=a ||| b:=by
  rw[BitVec.toNat_or]
  simp only[IntKind.bits,BitVec.toNat_ofInt]
  rw[show (((a:Int) % ((2 ^ 8:Nat):Int)).toNat)=a by omega,show (((b:Int) % ((2 ^ 8:Nat):Int)).toNat)=b by omega]
 have h2:a ||| b<256:=Nat.or_lt_two_pow (n:=8) ha hb
 rw[h]
 simp only[IntKind.wrap,IntKind.bits,IntKind.signed,Bool.false_and,Bool.false_eq_true,if_false]
 omega
def usesN(p:List Zc):Nat→Nat
 | 0=>0
 | k+1=>usesN p k ||| (match p[k]? with|some t=>(suppM t.m).toNat|none=>0)
theorem Zio(p:List Zc):∀ k,usesN p k<256
 | 0=>by simp[usesN]
 | k+1=>by
  refine Nat.or_lt_two_pow (n:=8) (Zio p k) ?_
  split
  ·rename_i t _
   have h:(suppM t.m).toNat<256:=by have:=ZkP t.m; omega
   exact h
  ·decide
theorem ZiY(p:List Zc):∀ k,usesTo p k=(usesN p k:Int)
 | 0=>rfl
 | k+1=>by
  have h1:=Zio p k
  unfold usesTo usesN
  rw[ZiY p k]
  cases p[k]? with
  | none=>exact ZnQ (b:=0) h1 (by omega)
  | some t=>
   have h:=ZkP t.m
   obtain⟨n,hn⟩:=Int.eq_ofNat_of_zero_le h.1
   show IntKind.u8.wrap (BitVec.ofInt IntKind.u8.bits (usesN p k:Int) ||| BitVec.ofInt IntKind.u8.bits (suppM t.m)).toNat=((usesN p k ||| (suppM t.m).toNat:Nat):Int)
   rw[hn]
   exact ZnQ h1 (by omega)
theorem ZjN(p:List Zc)(i:Fin 8):∀ k,(usesN p k).testBit i.val=(p.take k).any fun t=>decide (0<t.m i)
 | 0=>by simp[usesN]
 | k+1=>by
  simp only[usesN,Nat.testBit_or,ZjN p i k]
  cases h:p[k]? with
  | none=>
   have:p.length≤k:=List.getElem?_eq_none_iff.1 h
   simp[List.take_of_length_le this,List.take_of_length_le (show p.length≤k+1 by omega)]
  | some t=>
   rw[List.take_add_one,h]
   simp[Zm6]
theorem ZjO(p:List Zc):usesP p=(usesN p p.length:Int):=ZiY p _
theorem Ze8(p:List Zc)(i:Fin 8):(usesP p).toNat.testBit i.val=p.any fun t=>decide (0<t.m i):=by
 rw[ZjO,Int.toNat_natCast,ZjN,List.take_length]
theorem Zgj(p:List Zc):0≤usesP p∧usesP p<256:=by have:=Zio p p.length; rw[ZjO]; omega
theorem Zkw(u n:Nat):Int.fdiv (u:Int) ((2:Int) ^ n)=((u >>> n:Nat):Int):=by
 rw[Nat.shiftRight_eq_div_pow,show ((2:Int) ^ n)=((2 ^ n:Nat):Int) by simp,Int.fdiv_eq_ediv_of_nonneg _ (Int.natCast_nonneg _)]
 simp
theorem ZiP(p:List Zc){n:Int}(h0:0≤n)(h8:n≤8):Int.fdiv (IntKind.i64.wrap (usesP p)) (2 ^ (min (n).toNat IntKind.i64.bits))=(((usesP p).toNat >>> n.toNat:Nat):Int):=by
 have:=Zgj p
 rw[wrap64 (by omega),show min n.toNat IntKind.i64.bits=n.toNat by simp only[IntKind.bits]; omega]
 obtain⟨u,hu⟩:=Int.eq_ofNat_of_zero_le this.1
 rw[hu]
 exact Zkw u _
theorem Zjt(p:List Zc)(d:Int)(hd:-1≤d):∀ k,k≤p.length→(degPTo p k≤d↔∀ i (h:i<p.length),i<k→degM p[i].m≤d)
 | 0,_=>by simp[degPTo,hd]
 | k+1,hk=>by
  have ih:=Zjt p d hd k (by omega)
  have hk':k<p.length:=by omega
  simp only[degPTo,List.getElem?_eq_getElem hk']
  constructor
  ·intro h i hi hik
   by_cases e:i=k
   ·subst e; split at h <;> omega
   ·refine ih.1 ?_ i hi (by omega)
    split at h <;> omega
  ·intro h
   have h1:=h k hk' (by omega)
   have h2:=ih.2 fun i hi hik=>h i hi (by omega)
   split <;> omega
theorem Zlx{p:List Zc}{d:Int}(hd:-1≤d):degP p≤d↔∀ t ∈ p,degM t.m≤d:=by
 unfold degP
 rw[Zjt p d hd p.length (by omega)]
 constructor
 ·intro h t ht
  obtain⟨i,hi,rfl⟩:=List.mem_iff_getElem.1 ht
  exact h i hi hi
 ·intro h i hi _
  exact h _ (List.getElem_mem hi)
def Within(n:Nat)(p:List Zc):Prop:=∀ t ∈ p,∀ i:Fin 8,n≤i.val→¬ 0<t.m i
theorem Zgk{p:List Zc}{n:Nat}:((usesP p).toNat >>> n=0)↔Within n p:=by
 have hb:=Zgj p
 constructor
 ·intro h t ht i hi hp
  have h1:=Ze8 p i
  rw[show (p.any fun t=>decide (0<t.m i))=true from List.any_eq_true.2 ⟨t,ht,decide_eq_true hp⟩] at h1
  have h2:((usesP p).toNat >>> n).testBit (i.val-n)=true:=by rw[Nat.testBit_shiftRight,show n+(i.val-n)=i.val by omega]; exact h1
  rw[h] at h2
  simp at h2
 ·intro h
  refine Nat.eq_of_testBit_eq fun j=>?_
  rw[Nat.testBit_shiftRight,Nat.zero_testBit]
  by_cases hj:n+j<8
  ·rw[Ze8 p ⟨n+j,hj⟩]
   refine List.any_eq_false.2 fun t ht=>?_
   simp only[decide_eq_true_eq]
   exact h t ht _ (by simp)
  ·exact Nat.testBit_lt_two_pow (Nat.lt_of_lt_of_le (show (usesP p).toNat<2 ^ 8 by omega) (Nat.pow_le_pow_right (by omega) (by omega)))
theorem Zgb{p:List Zc}{n:Nat}(hn:n≤8):fitB p (n:Int)=true↔Within n p∧∀ t ∈ p,degM t.m≤12:=by
 unfold fitB
 rw[ZiP p (by omega) (by omega),Int.toNat_natCast]
 by_cases h:(usesP p).toNat >>> n=0
 ·rw[if_pos (by rw[h]; rfl),decide_eq_true_eq,Zlx (by omega)]
  exact⟨fun k=>⟨Zgk.1 h,k⟩,fun k=>k.2⟩
 ·rw[if_neg (by omega)]
  exact⟨fun k=>absurd k (by decide),fun k=>absurd (Zgk.2 k.1) h⟩
def Occurs(i:Fin 8)(p:List Zc):Bool:=p.any fun t=>decide (0<t.m i)
theorem Zgi(p:List Zc)(i:Fin 8):(Int.tmod (Int.fdiv (IntKind.i64.wrap (usesP p)) (2 ^ (min ((i.val:Int)).toNat IntKind.i64.bits))) 2=1)↔Occurs i p=true:=by
 have:=i.isLt
 rw[ZiP p (by omega) (by omega),Int.toNat_natCast]
 have h:=Ze8 p i
 rw[Nat.testBit_eq_decide_div_mod_eq,← Nat.shiftRight_eq_div_pow] at h
 unfold Occurs
 rw[← h,decide_eq_true_eq]
 generalize (usesP p).toNat >>> i.val=z
 rw[Int.tmod_eq_emod_of_nonneg (Int.natCast_nonneg z)]
 omega
theorem Zon{a b:Nat}(ha:a<256)(hb:b<256):IntKind.u8.wrap (BitVec.ofInt IntKind.u8.bits (a:Int) &&& BitVec.ofInt IntKind.u8.bits (b:Int)).toNat=((a &&& b:Nat):Int):=by
 have h:(BitVec.ofInt IntKind.u8.bits (a:Int) &&& BitVec.ofInt IntKind.u8.bits (b:Int)).toNat=a &&& b:=by
  rw[BitVec.toNat_and]
  simp only[IntKind.bits,BitVec.toNat_ofInt]
  rw[show (((a:Int) % ((2 ^ 8:Nat):Int)).toNat)=a by omega,show (((b:Int) % ((2 ^ 8:Nat):Int)).toNat)=b by omega]
 have h2:a &&& b≤a:=Nat.and_le_left
 rw[h]
 simp only[IntKind.wrap,IntKind.bits,IntKind.signed,Bool.false_and,Bool.false_eq_true,if_false]
 omega
theorem ZjM(p:List Zc)(i:Fin 8):(¬ (IntKind.u8.wrap (BitVec.ofInt IntKind.u8.bits (usesP p) &&& BitVec.ofInt IntKind.u8.bits (IntKind.u8.wrap (1*2 ^ (min ((i.val:Int)).toNat IntKind.u8.bits)))).toNat)=0)↔Occurs i p=true:=by
 have hb:=Zgj p
 have hi:=i.isLt
 have h2:=Zj5 hi
 rw[ZkC hi,ZdA]
 obtain⟨u,hu⟩:=Int.eq_ofNat_of_zero_le hb.1
 have h:=Ze8 p i
 rw[hu,Int.toNat_natCast] at h
 rw[ZdA] at h2
 rw[hu,Zon (by omega) (by omega)]
 unfold Occurs
 rw[← h]
 constructor
 ·intro hn
  cases hb:u.testBit i.val with
  | true=>rfl
  | false=>
   exfalso
   apply hn
   have:u &&& 2 ^ i.val=0:=by
    refine Nat.eq_of_testBit_eq fun j=>?_
    rw[Nat.testBit_and,Nat.testBit_two_pow,Nat.zero_testBit]
    by_cases e:i.val=j
    ·subst e; simp[hb]
    ·simp[e]
   rw[this]; rfl
 ·intro ht hn
  have h3:u &&& 2 ^ i.val=0:=by omega
  have h4:(u &&& 2 ^ i.val).testBit i.val=true:=by rw[Nat.testBit_and,ht,Nat.testBit_two_pow_self]; rfl
  rw[h3] at h4
  simp at h4
end Go.EL

namespace Go.EL
open Go Go.RowKit
def valR(r:Zf):Int:=if r.num.neg=true then -(r.num.mag.headD 0) else r.num.mag.headD 0
theorem ZbO(c:Int):valR (ratI c)=c:=by
 unfold valR ratI
 by_cases h:c<0
 ·simp[h,show ¬ c=0 by omega]; omega
 ·by_cases h0:c=0
  ·simp[h0]
  ·simp[h,h0]; omega
theorem ZkF{a b:Int}(h:ratI a=ratI b):a=b:=by rw[← ZbO a,← ZbO b,h]
def addT:List Zc→Zc→List Zc
 | [],t=>[t]
 | x::xs,t=>if 0<cmpM x.m t.m then x::addT xs t else if cmpM x.m t.m<0 then t::x::xs else if valR x.c+valR t.c=0 then xs else ⟨ratI (valR x.c+valR t.c),x.m⟩::xs
theorem ZhH:∀ (p:List Zc) (t:Zc),(addT p t).length≤p.length+1
 | [],_=>by simp[addT]
 | x::xs,t=>by
  have ih:=ZhH xs t
  simp only[addT]
  split
  ·simp; omega
  ·split
   ·simp
   ·split <;> simp; omega
theorem ZgJ:∀ (k:Nat) (p:List Zc) (t:Zc),k≤p.length→(∀ x ∈ p.take k,0<cmpM x.m t.m)→addT p t=p.take k++addT (p.drop k) t
 | 0,p,t,_,_=>by simp
 | k+1,[],t,h,_=>by simp at h
 | k+1,x::xs,t,h,hx=>by
  have h1:0<cmpM x.m t.m:=hx x (by simp)
  rw[addT,if_pos h1,ZgJ k xs t (by simpa using h) (fun y hy=>hx y (by simp[hy]))]
  simp
def Near(p:List Zc)(t:Zc):Prop:=∀ x ∈ p,x.m=t.m→∃ a b,x.c=ratI a∧t.c=ratI b∧-12≤a∧a≤12∧-3≤b∧b≤3
theorem ZnC{p:List Zc}{t x:Zc}(h:Near p t)(hx:x ∈ p)(hm:x.m=t.m):(Zd5 x.c t.c).Ret (ratI (valR x.c+valR t.c))∧∃ s,(ZbB (ratI (valR x.c+valR t.c))).Ret s∧(s=0↔valR x.c+valR t.c=0):=by
 obtain⟨a,b,e1,e2,h1,h2,h3,h4⟩:=h x hx hm
 rw[e1,e2,ZbO,ZbO]
 have k1:=ZO (ZO ZnY h1 h2) h3 h4
 have k2:=ZO Zik (x:=a+b) (by omega) (by omega)
 refine⟨Z4 k1,_,Z4 k2,?_⟩
 split
 ·omega
 ·split <;> omega
theorem Zk0{p:List Zc}(hl:p.length≤100):(ZcX p []).Ret p:=by
 show (Comp.next _ _).wp _
 refine Comp.Zh p.length (fun k s=>s=(p.take k,(k:Int),0)) (fun k s hk hs=>?_) (fun s hs=>?_) (by simp)
 ·subst hs
  show (if (k:Int)<(p.length:Int) then _ else _:Comp _).wp _
  rw[Comp.Ze,if_pos (by omega)]
  unfold Zbf
  rw[Comp.Ze,if_pos (by simp)]
  unfold ZaO
  rw[Comp.Ze,if_pos rfl]
  refine⟨p[k],idxN hk,by simp[small]; omega,?_⟩
  show _=_
  rw[wrapN (by omega),List.take_append_getElem hk]
 ·subst hs
  show (if ((p.length:Nat):Int)<(p.length:Int) then _ else _:Comp _).wp _
  rw[Comp.Ze,if_neg (by omega),Comp.Ze,if_neg (by simp)]
  exact List.take_length
theorem ZhB{p:List Zc}{t:Zc}(hl:p.length≤100)(hn:Near p t):(ZcX p [t]).Ret (addT p t):=by
 show (Comp.next _ _).wp _
 refine Comp.ZeC (fun s=>(∃ i:Nat,i≤p.length∧s=(p.take i,(i:Int),0)∧∀ x ∈ p.take i,0<cmpM x.m t.m)∨(∃ i:Nat,∃ out:List Zc,i≤p.length∧s=(out,(i:Int),1)∧out++p.drop i=addT p t∧out.length≤i+1))
  (fun s=>(p.length-s.2.1.toNat)+(1-s.2.2.toNat)) (fun s hs=>?_) _ (.inl ⟨0,by omega,by simp,by simp⟩)
 have hw:IntKind.i64.wrap 1=1:=by decide
 rcases hs with ⟨i,hi,rfl,hx⟩|⟨i,out,hi,rfl,ho,hlo⟩
 ·by_cases hil:i<p.length
  ·show (if (i:Int)<(p.length:Int) then _ else _:Comp _).wp _
   rw[Comp.Ze,if_pos (by omega)]
   unfold Zbf
   rw[Comp.Ze,if_neg (by simp),Comp.Ze,if_pos (by omega)]
   refine⟨p[i],idxN hil,t,⟨by omega,rfl⟩,_,Zfb _ _,?_⟩
   unfold ZaO
   rw[Comp.Ze]
   have hadd:addT p t=p.take i++addT (p.drop i) t:=ZgJ i p t hi hx
   have hdrop:p.drop i=p[i]::p.drop (i+1):=List.drop_eq_getElem_cons hil
   by_cases hc:0<cmpM p[i].m t.m
   ·rw[if_pos (decide_eq_true hc)]
    refine⟨p[i],idxN hil,by simp[small]; omega,?_⟩
    rw[wrapN (by omega),List.take_append_getElem hil]
    refine⟨.inl ⟨i+1,by omega,rfl,fun x hx'=>?_⟩,by simp; omega⟩
    rw[← List.take_append_getElem hil] at hx'
    rcases List.mem_append.1 hx' with h|h
    ·exact hx x h
    ·rw[List.mem_singleton] at h; subst h; exact hc
   ·rw[if_neg (by simpa using hc)]
    show (Zcr p [t] 0 (p.take i) (i:Int)).wp _
    unfold Zcr
    rw[Comp.Ze,if_neg (by omega)]
    refine⟨p[i],idxN hil,t,⟨by omega,rfl⟩,_,Zfb _ _,?_⟩
    unfold Zcq
    rw[Comp.Ze]
    by_cases hc2:cmpM p[i].m t.m<0
    ·rw[if_pos (decide_eq_true hc2)]
     refine⟨t,⟨by omega,rfl⟩,by simp[small]; omega,?_⟩
     refine⟨.inr ⟨i,_,hi,rfl,?_,by simp; omega⟩,by simp[hw]⟩
     rw[hadd,hdrop,addT,if_neg hc,if_pos hc2]
     simp
    ·rw[if_neg (by simpa using hc2)]
     have hm:p[i].m=t.m:=ZeU (by omega)
     obtain⟨h1,s,h2,h3⟩:=ZnC hn (List.getElem_mem hil) hm
     unfold ZfY
     refine⟨p[i],idxN hil,t,⟨by omega,rfl⟩,_,h1,s,h2,?_⟩
     rw[Comp.Ze]
     by_cases h0:valR p[i].c+valR t.c=0
     ·rw[if_neg (by simpa using h3.2 h0)]
      rw[wrapN (by omega)]
      refine⟨.inr ⟨i+1,_,by omega,rfl,?_,by simp; omega⟩,by simp; omega⟩
      rw[hadd,hdrop,addT,if_neg hc,if_neg hc2,if_pos h0]
     ·rw[if_pos (fun h=>h0 (h3.1 h))]
      refine⟨p[i],idxN hil,by simp[small]; omega,?_⟩
      rw[wrapN (by omega)]
      refine⟨.inr ⟨i+1,_,by omega,rfl,?_,by simp; omega⟩,by simp; omega⟩
      rw[hadd,hdrop,addT,if_neg hc,if_neg hc2,if_neg h0]
      simp
  ·obtain rfl:i=p.length:=by omega
   show (if ((p.length:Nat):Int)<(p.length:Int) then _ else _:Comp _).wp _
   rw[Comp.Ze,if_neg (by omega),Comp.Ze,if_pos (by simp)]
   unfold Zbf
   rw[Comp.Ze,if_neg (by simp),Comp.Ze,if_neg (by omega)]
   unfold ZaO
   rw[Comp.Ze,if_neg (by decide)]
   unfold Zcr
   rw[Comp.Ze,if_pos rfl]
   unfold Zcq
   rw[Comp.Ze,if_pos rfl]
   refine⟨t,⟨by omega,rfl⟩,by simp[small]; omega,?_⟩
   refine⟨.inr ⟨p.length,_,by omega,rfl,?_,by simp⟩,by simp[hw]⟩
   rw[ZgJ p.length p t (by omega) hx,List.drop_length]
   simp[addT]
 ·by_cases hil:i<p.length
  ·show (if (i:Int)<(p.length:Int) then _ else _:Comp _).wp _
   rw[Comp.Ze,if_pos (by omega)]
   unfold Zbf
   rw[Comp.Ze,if_pos (by simp)]
   unfold ZaO
   rw[Comp.Ze,if_pos rfl]
   refine⟨p[i],idxN hil,by simp[small]; omega,?_⟩
   rw[wrapN (by omega)]
   refine⟨.inr ⟨i+1,_,by omega,rfl,?_,by simp; omega⟩,by simp; omega⟩
   rw[← ho,List.drop_eq_getElem_cons hil]
   simp
  ·obtain rfl:i=p.length:=by omega
   show (if ((p.length:Nat):Int)<(p.length:Int) then _ else _:Comp _).wp _
   rw[Comp.Ze,if_neg (by omega),Comp.Ze,if_neg (by simp)]
   show _=_
   rw[← ho,List.drop_length,List.append_nil]
end Go.EL

namespace Go.EL
open Go Go.RowKit
structure IsPerm (π:M):Prop where
 rng:∀ i,0≤π i∧π i<8
 inj:∀ i j,π i=π j→i=j
def permTo(π m:M):Nat→M
 | 0=>fun _=>0
 | k+1=>if h:k<8 then setF (permTo π m k) (π ⟨k,h⟩).toNat (m ⟨k,h⟩) else permTo π m k
def permM(π m:M):M:=permTo π m 8
theorem ZjD{π:M}(h:IsPerm π)(m:M):∀ k,k≤8→∀ i:Fin 8,i.val<k→∀ j:Fin 8,(j.val:Int)=π i→permTo π m k j=m i
 | 0,_,i,hi,_,_=>by omega
 | k+1,hk,i,hi,j,hj=>by
  have hk':k<8:=by omega
  simp only[permTo,dif_pos hk',setF]
  have r:=h.rng ⟨k,hk'⟩
  by_cases e:i.val=k
  ·have:i=⟨k,hk'⟩:=Fin.ext e
   subst this
   rw[if_pos (by omega)]
  ·have hne:π i≠π ⟨k,hk'⟩:=fun he=>e (congrArg Fin.val (h.inj _ _ he))
   rw[if_neg (by omega)]
   exact ZjD h m k (by omega) i (by omega) j hj
theorem Zfx{π:M}(h:IsPerm π)(m:M):∀ k,k≤8→∀ j:Fin 8,(∀ i:Fin 8,i.val<k→π i≠(j.val:Int))→permTo π m k j=0
 | 0,_,_,_=>rfl
 | k+1,hk,j,hj=>by
  have hk':k<8:=by omega
  have r:=h.rng ⟨k,hk'⟩
  have:=hj ⟨k,hk'⟩ (by simp)
  simp only[permTo,dif_pos hk',setF]
  rw[if_neg (by omega)]
  exact Zfx h m k (by omega) j fun i hi=>hj i (by omega)
theorem Zhf{π m:M}(hm:Ok m):∀ k,Ok (permTo π m k)
 | 0=>fun _=>by simp[permTo]
 | k+1=>fun j=>by
  simp only[permTo]
  split
  ·rename_i hk
   simp only[setF]
   split
   ·exact hm _
   ·exact Zhf hm k j
  ·exact Zhf hm k j
theorem ZkD{π m:M}(hm:Ok m):Ok (permM π m):=Zhf hm 8
theorem Zig{π:M}(h:IsPerm π)(m:M)(i j:Fin 8)(hj:(j.val:Int)=π i):permM π m j=m i:=ZjD h m 8 (by omega) i i.isLt j hj
theorem Zhe{π:M}(h:IsPerm π){a b:M}(e:permM π a=permM π b):a=b:=by
 funext i
 have r:=h.rng i
 have h1:=Zig h a i ⟨(π i).toNat,by omega⟩ (by simp; omega)
 have h2:=Zig h b i ⟨(π i).toNat,by omega⟩ (by simp; omega)
 rw[← h1,← h2,e]
theorem ZgO(f:M)(x:Int)(q:Nat):∀ k,k≤8→degTo (setF f q x) k=degTo f k+(if h:q<8 then (if q<k then x-f ⟨q,h⟩ else 0) else 0)
 | 0,_=>by simp[degTo]
 | k+1,hk=>by
  have hk':k<8:=by omega
  simp only[degTo,dif_pos hk',ZgO f x q k (by omega),setF]
  by_cases e:k=q
  ·subst e
   simp[hk']
   omega
  ·rw[if_neg e]
   by_cases h8:q<8
   ·simp only[dif_pos h8]
    by_cases hq:q<k
    ·rw[if_pos hq,if_pos (by omega)]; omega
    ·rw[if_neg hq,if_neg (by omega)]; omega
   ·simp only[dif_neg h8]; omega
theorem Zjs{π:M}(h:IsPerm π)(m:M):degM (permM π m)=degM m:=by
 have key:∀ k,k≤8→degM (permTo π m k)=degTo m k:=by
  intro k
  induction k with
  | zero=>intro _; simp[permTo,degM,degTo]
  | succ k ih=>
   intro hk
   have hk':k<8:=by omega
   have r:=h.rng ⟨k,hk'⟩
   have hq:(π ⟨k,hk'⟩).toNat<8:=by omega
   simp only[permTo,dif_pos hk',degTo]
   unfold degM at ih ⊢
   rw[ZgO _ _ _ 8 (by omega),dif_pos hq,if_pos hq,ih (by omega)]
   have:permTo π m k ⟨(π ⟨k,hk'⟩).toNat,hq⟩=0:=Zfx h m k (by omega) _ fun i hi he=>by
    have:π i=π ⟨k,hk'⟩:=by simp at he; omega
    have:=congrArg Fin.val (h.inj _ _ this)
    simp at this; omega
   rw[this]; omega
 exact key 8 (by omega)
theorem ZmQ{π:M}(h:IsPerm π)(x:Zc):(Zcl π x (0,fun _=>0)).Ret (permM π x.m):=by
 refine Comp.Zh 8 (fun k s=>s=((k:Int),permTo π x.m k)) (fun k s hk hs=>?_) (fun s hs=>?_) rfl
 ·subst hs
  have r:=h.rng ⟨k,hk⟩
  show (if (k:Int)<8 then _ else _:Comp _).wp _
  rw[Comp.Ze,if_pos (by omega)]
  refine⟨by omega,by omega,by rw[getFN hk]; exact r,?_⟩
  show _=_
  rw[wrapN (by omega),getFN hk,getFN hk]
  simp only[permTo,dif_pos hk]
 ·subst hs
  show (if ((8:Nat):Int)<8 then _ else _:Comp _).wp _
  rw[Comp.Ze,if_neg (by omega)]
  rfl
theorem Zme{π:M}(h:IsPerm π){p:List Zc}{k:Nat}(hk:k<p.length):(ZfG p π (k:Int) (0,fun _=>0)).Ret (permM π p[k].m):=by
 refine Comp.Zh 8 (fun j s=>s=((j:Int),permTo π p[k].m j)) (fun j s hj hs=>?_) (fun s hs=>?_) rfl
 ·subst hs
  have r:=h.rng ⟨j,hj⟩
  show (if (j:Int)<8 then _ else _:Comp _).wp _
  rw[Comp.Ze,if_pos (by omega)]
  refine⟨by omega,p[k],idxN hk,by omega,by rw[getFN hj]; exact r,?_⟩
  show _=_
  rw[wrapN (by omega),getFN hj,getFN hj]
  simp only[permTo,dif_pos hj]
 ·subst hs
  show (if ((8:Nat):Int)<8 then _ else _:Comp _).wp _
  rw[Comp.Ze,if_neg (by omega)]
  rfl
theorem ZlG{π:M}(h:IsPerm π){k:Nat}(hk:k<8){bx:Fin 8→Bool}(hb:∀ j,bx j=true→∃ i:Fin 8,i.val<k∧(j.val:Int)=π i):¬ getF bx (π ⟨k,hk⟩)=true:=by
 have r:=h.rng ⟨k,hk⟩
 rw[ZfI bx (show (π ⟨k,hk⟩).toNat<8 by omega)]
 intro ht
 obtain⟨i,h1,h2⟩:=hb _ ht
 have:π i=π ⟨k,hk⟩:=by simp at h2; omega
 have:=congrArg Fin.val (h.inj _ _ this)
 simp at this; omega
theorem ZjH{π:M}(h:IsPerm π){k:Nat}(hk:k<8){bx:Fin 8→Bool}(hb:∀ j,bx j=true→∃ i:Fin 8,i.val<k∧(j.val:Int)=π i):∀ j,setF bx (π ⟨k,hk⟩).toNat true j=true→∃ i:Fin 8,i.val<k+1∧(j.val:Int)=π i:=by
 intro j hj
 have r:=h.rng ⟨k,hk⟩
 simp only[setF] at hj
 split at hj
 ·exact⟨⟨k,hk⟩,by simp,by omega⟩
 ·obtain⟨i,h1,h2⟩:=hb j hj
  exact⟨i,by omega,h2⟩
theorem Zhw{π:M}(h:IsPerm π):(ZbW π).Ret true:=by
 show (Comp.next _ _).wp _
 refine Comp.Zh 8 (fun k s=>∃ bx:Fin 8→Bool,s=((k:Int),bx)∧∀ j,bx j=true→∃ i:Fin 8,i.val<k∧(j.val:Int)=π i) (fun k s hk hs=>?_) (fun s hs=>?_) ⟨_,rfl,fun j hj=>by cases hj⟩
 ·obtain⟨bx,rfl,hb⟩:=hs
  have r:=h.rng ⟨k,hk⟩
  show (if (k:Int)<8 then _ else _:Comp _).wp _
  rw[Comp.Ze,if_pos (by omega)]
  refine⟨by omega,?_⟩
  rw[getFN hk,Comp.Ze,if_neg (by omega)]
  refine⟨by omega,?_⟩
  rw[Comp.Ze,if_neg (by omega)]
  refine⟨by omega,r,?_⟩
  rw[Comp.Ze,if_neg (ZlG h hk hb)]
  refine⟨by omega,r,?_⟩
  rw[wrapN (by omega)]
  exact⟨_,rfl,ZjH h hk hb⟩
 ·obtain⟨bx,rfl,hb⟩:=hs
  show (if ((8:Nat):Int)<8 then _ else _:Comp _).wp _
  rw[Comp.Ze,if_neg (by omega)]
  rfl
end Go.EL

namespace Go.EL
open Go Go.RowKit
def permT(π:M)(t:Zc):Zc:=⟨t.c,permM π t.m⟩
def permAcc(π:M)(l:List Zc):List Zc:=l.foldl (fun acc t=>addT acc (permT π t)) []
def permP(π:M)(p:List Zc):List Zc:=permAcc π p
theorem Znm{p:List Zc}{t:Zc}:(∀ x ∈ p,x.m≠t.m)→(addT p t).Perm (t::p):=by
 induction p with
 | nil=>intro _; exact List.Perm.refl _
 | cons x xs ih=>
  intro h
  have hx:=h x (by simp)
  simp only[addT]
  split
  ·exact ((ih fun y hy=>h y (by simp[hy])).cons x).trans (List.Perm.swap _ _ _)
  ·split
   ·exact List.Perm.refl _
   ·exact absurd (ZeU (by omega)) hx
theorem ZjY{a b c:M}(h1:0<cmpM a b)(h2:0<cmpM b c):0<cmpM a c:=by
 have k1:=ZbC a b
 have k2:=ZbC b c
 have k3:=ZbC a c
 have:=Zgr (a:=c) (b:=b) (c:=a) (by omega) (by omega) (.inl (by omega))
 omega
abbrev Desc(p:List Zc):Prop:=p.Pairwise fun x y=>0<cmpM x.m y.m
theorem Zjp{p:List Zc}{t:Zc}:Desc p→Desc (addT p t)∧∀ z,(∀ x ∈ p,0<cmpM z x.m)→0<cmpM z t.m→∀ y ∈ addT p t,0<cmpM z y.m:=by
 induction p with
 | nil=>intro _; exact⟨by simp[addT],fun z _ h y hy=>by simp[addT] at hy; subst hy; exact h⟩
 | cons x xs ih=>
  intro hd
  obtain⟨h1,h2⟩:=List.pairwise_cons.1 hd
  obtain⟨i1,i2⟩:=ih h2
  simp only[addT]
  split
  ·rename_i hc
   refine⟨List.pairwise_cons.2 ⟨i2 _ h1 hc,i1⟩,fun z hz hzt y hy=>?_⟩
   rcases List.mem_cons.1 hy with rfl|hy
   ·exact hz _ (by simp)
   ·exact i2 z (fun w hw=>hz w (by simp[hw])) hzt y hy
  ·split
   ·rename_i hc
    have hc':0<cmpM t.m x.m:=by have:=ZbC x.m t.m; omega
    refine⟨List.pairwise_cons.2 ⟨fun y hy=>?_,hd⟩,fun z hz hzt y hy=>?_⟩
    ·rcases List.mem_cons.1 hy with rfl|hy
     ·exact hc'
     ·exact ZjY hc' (h1 y hy)
    ·rcases List.mem_cons.1 hy with rfl|hy
     ·exact hzt
     ·exact hz y hy
   ·split
    ·exact⟨h2,fun z hz _ y hy=>hz y (by simp[hy])⟩
    ·refine⟨List.pairwise_cons.2 ⟨h1,h2⟩,fun z hz _ y hy=>?_⟩
     rcases List.mem_cons.1 hy with rfl|hy
     ·exact hz x (by simp)
     ·exact hz y (by simp[hy])
theorem Zhd(π:M)(l:List Zc)(t:Zc):permAcc π (l++[t])=addT (permAcc π l) (permT π t):=by simp[permAcc,List.foldl_append]
theorem ZdZ{p:List Zc}(h:Desc p):p.Pairwise fun x y=>x.m≠y.m:=h.imp fun hp e=>by rw[e,ZgM] at hp; omega
theorem Zgf{π:M}(h:IsPerm π){p:List Zc}(hd:Desc p):∀ k,k≤p.length→(permAcc π (p.take k)).Perm ((p.take k).map (permT π))∧Desc (permAcc π (p.take k))
 | 0,_=>by simp[permAcc]
 | k+1,hk=>by
  obtain⟨h1,h2⟩:=Zgf h hd k (by omega)
  have hk':k<p.length:=by omega
  rw[← List.take_append_getElem hk',Zhd]
  refine⟨?_,(Zjp h2).1⟩
  have hnew:∀ x ∈ permAcc π (p.take k),x.m≠(permT π p[k]).m:=by
   intro x hx e
   obtain⟨y,hy,rfl⟩:=List.mem_map.1 (h1.mem_iff.1 hx)
   have hm:=Zhe h e
   obtain⟨i,hi,rfl⟩:=List.mem_iff_getElem.1 hy
   simp only[List.length_take] at hi
   rw[List.getElem_take] at hm
   exact List.pairwise_iff_getElem.1 (ZdZ hd) i k (by omega) hk' (by omega) hm
  refine (Znm hnew).trans ?_
  rw[List.map_append]
  exact (h1.cons _).trans (List.perm_append_comm (l₁:=[permT π p[k]]))
theorem ZbU{π:M}(h:IsPerm π){p:List Zc}(hd:Desc p):(permP π p).Perm (p.map (permT π))∧Desc (permP π p):=by
 have:=Zgf h hd p.length (by omega)
 rwa [List.take_length] at this
theorem Zih{π:M}(h:IsPerm π){p:List Zc}(hp:PolOk p):PolOk (permP π p):=by
 obtain⟨h1,h2⟩:=ZbU h hp.ord
 refine⟨h2,fun t ht=>?_,by rw[h1.length_eq,List.length_map]; exact hp.len⟩
 obtain⟨y,hy,rfl⟩:=List.mem_map.1 (h1.mem_iff.1 ht)
 exact⟨(hp.trm y hy).c,ZkD (hp.trm y hy).m⟩
theorem Ziu{π:M}(h:IsPerm π){p:List Zc}(hp:PolOk p):(Zfh p π).Ret (permP π p,0):=by
 have hl:=hp.len
 refine⟨true,Zhw h,?_⟩
 show (Comp.next _ _).wp _
 refine Comp.Zh p.length (fun k s=>s=(permAcc π (p.take k),(k:Int))) (fun k s hk hs=>?_) (fun s hs=>?_) (by simp[permAcc])
 ·subst hs
  obtain⟨h1,h2⟩:=Zgf h hp.ord k (by omega)
  show (if (k:Int)<(p.length:Int) then _ else _:Comp _).wp _
  rw[Comp.Ze,if_pos (by omega)]
  refine (Zme h hk).then ?_
  refine⟨p[k],idxN hk,_,ZhB (by rw[h1.length_eq,List.length_map,List.length_take]; omega) (fun x hx e=>?_),?_⟩
  ·obtain⟨y,hy,rfl⟩:=List.mem_map.1 (h1.mem_iff.1 hx)
   have hm:=Zhe h e
   obtain⟨i,hi,rfl⟩:=List.mem_iff_getElem.1 hy
   simp only[List.length_take] at hi
   rw[List.getElem_take] at hm
   exact absurd hm (List.pairwise_iff_getElem.1 (ZdZ hp.ord) i k (by omega) hk (by omega))
  ·show _=_
   rw[wrapN (by omega),← List.take_append_getElem hk,Zhd]
   rfl
 ·subst hs
  show (if ((p.length:Nat):Int)<(p.length:Int) then _ else _:Comp _).wp _
  rw[Comp.Ze,if_neg (by omega)]
  show _=_
  rw[List.take_length]; rfl
end Go.EL

namespace Go.EL
open Go Go.RowKit
theorem Zoa:(between 0 100 fun n=>match (Zb3 (IntKind.u64.wrap n)).ev 30 with|some v=>decide (0≤v∧v<1000000)|none=>false)=true:=by decide +kernel
theorem Zob{n:Nat}(h:n≤100):∃ v,(Zb3 (IntKind.u64.wrap (n:Int))).Ret v∧0≤v∧v<1000000:=by
 have:=ZO Zoa (x:=(n:Int)) (by omega) (by omega)
 split at this
 ·rename_i v hv
  have:=of_decide_eq_true this
  exact⟨v,Comp.Ret.ZcL 30 hv,this.1,this.2⟩
 ·cases this
theorem Zn3{p:List Zc}(h:Desc p){x y:Zc}(hx:x ∈ p)(hy:y ∈ p)(e:x.m=y.m):x=y:=by
 obtain⟨i,hi,rfl⟩:=List.mem_iff_getElem.1 hx
 obtain⟨j,hj,rfl⟩:=List.mem_iff_getElem.1 hy
 have key:=List.pairwise_iff_getElem.1 (ZdZ h)
 rcases Nat.lt_trichotomy i j with hij|hij|hij
 ·exact absurd e (key i j hi hj hij)
 ·subst hij; rfl
 ·exact absurd e.symm (key j i hj hi hij)
theorem ZmD{p:List Zc}(h:Desc p):p.Pairwise fun x y=>¬ cmpM x.m y.m<0:=h.imp fun hp=>by omega
theorem Zmn{p ys:List Zc}(hd:Desc p)(hp:ys.Perm p)(hs:ys.Pairwise fun x y=>¬ cmpM x.m y.m<0):ys=p:=
 List.Perm.eq_of_pairwise (le:=fun x y:Zc=>¬ cmpM x.m y.m<0) (fun a b ha hb h1 h2=>by
  have:=ZbC a.m b.m
  exact Zn3 hd (hp.mem_iff.1 ha) hb (ZeU (by omega))) hs (ZmD hd) hp
theorem Zkn{p l:List Zc}(hd:Desc p)(hl:p.length≤100)(hp:l.Perm p):(ZD l).Ret p:=by
 have e:=hp.length_eq
 obtain⟨v,h1,h2,h3⟩:=Zob (n:=l.length) (by omega)
 refine⟨v,h1,p,?_,rfl⟩
 refine⟨⟨rfl,rfl,⟨h2,h3⟩,by omega⟩,fun ys ⟨k1,k2⟩=>?_⟩
 exact Zmn hd (k1.trans hp) k2
def termOf(q:M×Zf):Zc:=⟨q.2,q.1⟩
theorem Zmo{p:List Zc}(hp:PolOk p){D:List (M×Zf)}(hD:(D.map termOf).Perm p):(ZbY D).Ret p:=by
 have hl:=hp.len
 have e:=hD.length_eq
 rw[List.length_map] at e
 refine⟨⟨by omega,by omega⟩,?_⟩
 show (Comp.next _ _).wp _
 refine Comp.ZeC (fun s=>(s.1++s.2.map termOf).Perm p) (fun s=>s.2.length) (fun s hs=>?_) _ (by simpa using hD)
 obtain⟨rv,R⟩:=s
 simp only at hs
 have hlen:=hs.length_eq
 simp only[List.length_append,List.length_map] at hlen
 refine⟨fun hR=>?_,fun R1 q R2 hR=>?_⟩
 ·subst hR
  rw[List.map_nil,List.append_nil] at hs
  exact⟨_,Zkn hp.ord hl hs,rfl⟩
 ·subst hR
  have hmem:termOf q ∈ p:=hs.mem_iff.1 (by simp)
  obtain⟨s,h1,h2⟩:=(hp.trm _ hmem).ps
  refine⟨s,h1,?_⟩
  rw[Comp.Ze,if_pos h2]
  simp only[List.length_append,List.length_cons] at hlen
  refine⟨by simp[small]; omega,?_,?_⟩
  ·refine List.Perm.trans ?_ hs
   simp only[List.map_append,List.map_cons,List.append_assoc,List.singleton_append]
   refine List.Perm.append_left rv ?_
   exact (List.perm_middle (a:=termOf q) (l₁:=R1.map termOf) (l₂:=R2.map termOf)).symm
  ·show (R1++R2).length<(R1++q::R2).length
   simp
theorem ZoV{m:M}(h:Ok m):∀ i,(Lit.int IntKind.i64 (m i)).wf=true:=fun i=>by
 have:=h i
 simp only[Lit.wf,Bool.and_eq_true,decide_eq_true_eq]
 exact⟨Int.le_trans (by decide) this.1,Int.le_trans this.2 (by decide)⟩
def pairT(π:M)(t:Zc):M×Zf:=(permM π t.m,t.c)
theorem ZkW{π:M}(h:IsPerm π){p:List Zc}(hp:PolOk p):(ZbL p π).Ret (permP π p,0):=by
 have hl:=hp.len
 show (Comp.next _ _).wp _
 refine Comp.Zh 8 (fun k s=>∃ bx:Fin 8→Bool,s=((k:Int),bx)∧∀ j,bx j=true→∃ i:Fin 8,i.val<k∧(j.val:Int)=π i) (fun k s hk hs=>?_) (fun s hs=>?_) ⟨_,rfl,fun j hj=>by cases hj⟩
 ·obtain⟨bx,rfl,hb⟩:=hs
  have r:=h.rng ⟨k,hk⟩
  show (if (k:Int)<8 then _ else _:Comp _).wp _
  rw[Comp.Ze,if_pos (by omega)]
  refine⟨by omega,?_⟩
  rw[getFN hk,Comp.Ze,if_neg (by omega),Comp.Ze,if_neg (by omega)]
  refine⟨r,?_⟩
  rw[Comp.Ze,if_neg (ZlG h hk hb)]
  refine⟨r,?_⟩
  rw[wrapN (by omega)]
  exact⟨_,rfl,ZjH h hk hb⟩
 ·obtain⟨bx,rfl,hb⟩:=hs
  show (if ((8:Nat):Int)<8 then _ else _:Comp _).wp _
  rw[Comp.Ze,if_neg (by omega)]
  show (Zaq p π).wp _
  show (Comp.next _ _).wp _
  refine Comp.Zh p.length (fun k s=>s=((k:Int),(p.take k).map (pairT π))) (fun k s hk hs=>?_) (fun s hs=>?_) (by simp)
  ·subst hs
   show (if (k:Int)<(p.length:Int) then _ else _:Comp _).wp _
   rw[Comp.Ze,if_pos (by omega)]
   refine⟨p[k],idxN hk,?_⟩
   refine (ZmQ h p[k]).then ?_
   have hput:mput ((p.take k).map (pairT π)) (permM π p[k].m) p[k].c=(p.take (k+1)).map (pairT π):=by
    rw[Zdf,← List.take_append_getElem hk,List.map_append]
    ·rfl
    ·intro q hq e
     obtain⟨y,hy,rfl⟩:=List.mem_map.1 hq
     have hm:=Zhe h e
     obtain⟨i,hi,rfl⟩:=List.mem_iff_getElem.1 hy
     simp only[List.length_take] at hi
     rw[List.getElem_take] at hm
     exact List.pairwise_iff_getElem.1 (ZdZ hp.ord) i k (by omega) hk (by omega) hm
   refine⟨⟨ZoV (ZkD (hp.at hk).m),?_⟩,?_⟩
   ·rw[hput,List.length_map,List.length_take]; simp only[small]; omega
   ·show _=_
    rw[hput,wrapN (by omega)]
  ·subst hs
   show (if ((p.length:Nat):Int)<(p.length:Int) then _ else _:Comp _).wp _
   rw[Comp.Ze,if_neg (by omega)]
   refine⟨permP π p,Zmo (Zih h hp) ?_,rfl⟩
   rw[List.take_length,List.map_map]
   exact (ZbU h hp.ord).1.symm
end Go.EL

namespace Go.EL
open Go Go.RowKit
theorem Zco{n:Int}(h1:-8≤n)(h2:n≤8):(Z5 n).Ret (ratI n):=Z4 (ZO Znh h1 h2)
theorem mul_zero(m:M):mulM (fun _=>0) m=m:=by funext i; simp[mulM]
theorem Zmx{c:Int}(h1:-3≤c)(h2:c≤3){m:M}(hm:Ok m):(ZeO (ratI c) [⟨ratI 1,m⟩]).Ret (if c=0 then [] else [⟨ratI c,m⟩]):=by
 have hs:=Z4 (ZO Zik (x:=c) (by omega) (by omega))
 by_cases h0:c=0
 ·subst h0
  rw[if_pos rfl]
  refine⟨([],0),⟨_,hs,?_⟩,rfl⟩
  rw[Comp.Ze,if_pos (by decide)]
  rfl
 ·rw[if_neg h0]
  refine⟨([⟨ratI c,m⟩],0),⟨_,hs,?_⟩,rfl⟩
  rw[Comp.Ze,if_neg (by split <;> first|omega|(split <;> omega))]
  show (Comp.next _ _).wp _
  refine Comp.Zh 1 (fun k s=>s=((if k=0 then [] else [⟨ratI c,m⟩]),(k:Int))) (fun k s hk hs=>?_) (fun s hs=>?_) rfl
  ·obtain rfl:k=0:=by omega
   subst hs
   refine⟨⟨ratI 1,m⟩,⟨by omega,rfl⟩,(m,0),?_,?_⟩
   ·have:=ZkZ (a:=fun _=>0) (b:=m) (fun _=>⟨Int.le_refl 0,show (0:Int)≤65535 by decide⟩) hm (by rw[mul_zero]; exact hm)
    rwa [mul_zero] at this
   ·rw[Comp.Ze,if_neg (fun h=>h rfl)]
    exact⟨⟨ratI 1,m⟩,⟨by omega,rfl⟩,_,Z4 (ZO Zod h1 h2),by simp[small],rfl⟩
  ·subst hs
   rfl
def RawOk(x:ZF):Prop:=∀ v ∈ x.t,∀ j:Fin 5,-128≤v j∧v j≤127
structure MadeOk (K:Int) (n:Nat) (d:Int) (k:Nat) (p:List Zc):Prop where
 ord:Desc p
 cof:∀ t ∈ p,∃ c:Int,t.c=ratI c∧c≠0∧-K≤c∧c≤K
 mon:∀ t ∈ p,(∀ i,0≤t.m i)∧(∀ i:Fin 8,n≤i.val→t.m i=0)∧degM t.m≤d
 len:p.length≤k
theorem Zf6{m:M}(h:∀ i,0≤m i):∀ k,k≤8→0≤degTo m k∧∀ i:Fin 8,i.val<k→m i≤degTo m k
 | 0,_=>by simp[degTo]
 | k+1,hk=>by
  obtain⟨h1,h2⟩:=Zf6 h k (by omega)
  have hk':k<8:=by omega
  have:=h ⟨k,hk'⟩
  simp only[degTo,dif_pos hk']
  refine⟨by omega,fun i hi=>?_⟩
  by_cases e:i.val=k
  ·have:i=⟨k,hk'⟩:=Fin.ext e
   subst this; omega
  ·have:=h2 i (by omega); omega
theorem ZjC{m:M}(h:∀ i,0≤m i){d:Int}(hd:degM m≤d)(h2:d≤65535):Ok m:=fun i=>by
 have:=(Zf6 h 8 (by omega)).2 i i.isLt
 unfold degM at hd
 exact⟨h i,by omega⟩
theorem MadeOk.pol{K:Int}{n:Nat}{d:Int}{k:Nat}{p:List Zc}(h:MadeOk K n d k p)(hK:K≤12)(hd:d≤100)(hk:k≤100):PolOk p:=
 ⟨h.ord,fun t ht=>⟨by obtain⟨c,e,h0,h1,h2⟩:=h.cof t ht; exact⟨c,e,h0,by omega,by omega⟩,ZjC (h.mon t ht).1 (h.mon t ht).2.2 (by omega)⟩,by have:=h.len; omega⟩
theorem Zko{p:List Zc}{t y:Zc}:y ∈ addT p t→y ∈ p∨y=t∨∃ x ∈ p,x.m=t.m∧valR x.c+valR t.c≠0∧y=⟨ratI (valR x.c+valR t.c),x.m⟩:=by
 induction p with
 | nil=>intro h; simp[addT] at h; exact .inr (.inl h)
 | cons x xs ih=>
  intro h
  simp only[addT] at h
  split at h
  ·rcases List.mem_cons.1 h with rfl|h
   ·exact .inl (by simp)
   ·rcases ih h with h|h|⟨z,h1,h2⟩
    ·exact .inl (by simp[h])
    ·exact .inr (.inl h)
    ·exact .inr (.inr ⟨z,by simp[h1],h2⟩)
  ·split at h
   ·rcases List.mem_cons.1 h with rfl|h
    ·exact .inr (.inl rfl)
    ·exact .inl h
   ·have hm:x.m=t.m:=ZeU (by omega)
    split at h
    ·exact .inl (by simp[h])
    ·rename_i hne
     rcases List.mem_cons.1 h with rfl|h
     ·exact .inr (.inr ⟨x,by simp,hm,hne,rfl⟩)
     ·exact .inl (by simp[h])
theorem MadeOk.add{K:Int}{n:Nat}{d:Int}{k:Nat}{p:List Zc}(h:MadeOk K n d k p){c:Int}{m:M}(hK:0≤K)(h0:c≠0)(h1:-3≤c)(h2:c≤3)(hm:(∀ i,0≤m i)∧(∀ i:Fin 8,n≤i.val→m i=0)∧degM m≤d):
  MadeOk (K+3) n d (k+1) (addT p ⟨ratI c,m⟩):=by
 refine⟨(Zjp h.ord).1,fun t ht=>?_,fun t ht=>?_,by have:=ZhH p ⟨ratI c,m⟩; have:=h.len; omega⟩
 ·rcases Zko ht with ht|rfl|⟨x,hx,hxm,hne,rfl⟩
  ·obtain⟨a,e,k0,k1,k2⟩:=h.cof t ht
   exact⟨a,e,k0,by omega,by omega⟩
  ·exact⟨c,rfl,h0,by omega,by omega⟩
  ·obtain⟨a,e,k0,k1,k2⟩:=h.cof x hx
   simp only[ZbO,e] at hne ⊢
   exact⟨a+c,rfl,hne,by omega,by omega⟩
 ·rcases Zko ht with ht|rfl|⟨x,hx,hxm,hne,rfl⟩
  ·exact h.mon t ht
  ·exact hm
  ·exact h.mon x hx
theorem MadeOk.grow{K K':Int}{n:Nat}{d:Int}{k k':Nat}{p:List Zc}(h:MadeOk K n d k p)(h1:K≤K')(h2:k≤k'):MadeOk K' n d k' p:=
 ⟨h.ord,fun t ht=>by obtain⟨a,e,k0,k1,k2⟩:=h.cof t ht; exact⟨a,e,k0,by omega,by omega⟩,h.mon,by have:=h.len; omega⟩
theorem MadeOk.near{K:Int}{n:Nat}{d:Int}{k:Nat}{p:List Zc}(h:MadeOk K n d k p)(hK:K≤12){c:Int}{m:M}(h1:-3≤c)(h2:c≤3):Near p ⟨ratI c,m⟩:=fun x hx _=>by
 obtain⟨a,e,k0,k1,k2⟩:=h.cof x hx
 exact⟨a,c,e,rfl,by omega,by omega,h1,h2⟩
def absI(n:Int):Int:=if n<0 then -n else n
theorem ZnX{n:Int}(h1:-128≤n)(h2:n≤127):(Zhq n).Ret (absI n):=by
 unfold Zhq absI
 by_cases h:n<0
 ·rw[if_pos h,if_pos h]
  show _=_
  simp (disch:=omega) only[wrap64]
  omega
 ·rw[if_neg h,if_neg h]
  exact wrap64 (by omega)
theorem ZaE{a b:Int}(ha:0≤a)(hb:0<b):0≤Int.tmod a b∧Int.tmod a b<b:=by
 rw[Int.tmod_eq_emod_of_nonneg ha]
 exact⟨Int.emod_nonneg _ (by omega),Int.emod_lt_of_pos _ hb⟩
theorem tmod4{a:Int}(h1:-128≤a)(h2:a≤127):-3≤Int.tmod a 4∧Int.tmod a 4≤3:=by
 by_cases h:0≤a
 ·have:=ZaE (b:=4) h (by omega); omega
 ·have:=ZaE (a:=-a) (b:=4) (by omega) (by omega)
  rw[Int.neg_tmod] at this
  omega
def rawTo(v:Fin 5→Int)(d:Int):Nat→Int×M
 | 0=>(d,fun _=>0)
 | j+1=>((rawTo v d j).1-Int.tmod (absI (getF v ((j+1:Nat):Int))) ((rawTo v d j).1+1),setF (rawTo v d j).2 j (Int.tmod (absI (getF v ((j+1:Nat):Int))) ((rawTo v d j).1+1)))
theorem Zij{v:Fin 5→Int}{d:Int}(hd:0≤d):∀ j,j≤4→0≤(rawTo v d j).1∧(∀ i,0≤(rawTo v d j).2 i)∧(∀ i:Fin 8,j≤i.val→(rawTo v d j).2 i=0)∧degM (rawTo v d j).2+(rawTo v d j).1=d
 | 0,_=>⟨hd,fun _=>Int.le_refl 0,fun _ _=>rfl,by simp[rawTo,degM,degTo]⟩
 | j+1,hj=>by
  obtain⟨h0,h1,h2,h3⟩:=Zij (v:=v) hd j (by omega)
  have ha:0≤absI (getF v ((j+1:Nat):Int)):=by unfold absI; split <;> omega
  have hm:=ZaE ha (show 0<(rawTo v d j).1+1 by omega)
  simp only[rawTo]
  refine⟨by omega,fun i=>?_,fun i hi=>?_,?_⟩
  ·simp only[setF]; split
   ·exact hm.1
   ·exact h1 i
  ·simp only[setF]; rw[if_neg (by omega)]; exact h2 i (by omega)
  ·unfold degM at h3 ⊢
   rw[ZgO _ _ _ 8 (by omega),dif_pos (by omega),if_pos (by omega),h2 _ (by simp)]
   omega
def rawM(v:Fin 5→Int)(d:Int)(n:Nat):M:=(rawTo v d n).2
theorem ZlD{v:Fin 5→Int}{d:Int}(hd:0≤d){n:Nat}(hn:n≤4):(∀ i,0≤rawM v d n i)∧(∀ i:Fin 8,n≤i.val→rawM v d n i=0)∧degM (rawM v d n)≤d:=by
 obtain⟨h0,h1,h2,h3⟩:=Zij (v:=v) hd n hn
 exact⟨h1,h2,by unfold rawM; omega⟩
theorem Zmv{x:ZF}(hx:RawOk x){n:Nat}(hn:n≤4){d:Int}(hd0:0≤d)(hd:d≤100){k:Nat}(hk:k<x.t.length):
  (ZhD x (n:Int) (k:Int) (d,0,fun _=>0)).Ret (rawM x.t[k] d n):=by
 refine Comp.Zh n (fun j s=>s=((rawTo x.t[k] d j).1,(j:Int),(rawTo x.t[k] d j).2)) (fun j s hj hs=>?_) (fun s hs=>?_) rfl
 ·subst hs
  obtain⟨h0,h1,h2,h3⟩:=Zij (v:=x.t[k]) hd0 j (by omega)
  have hb:=(Zf6 h1 8 (by omega)).1
  have hj8:j<8:=by omega
  have hr:=hx _ (List.getElem_mem hk)
  show (if (j:Int)<(n:Int) then _ else _:Comp _).wp _
  rw[Comp.Ze,if_pos (by omega),Comp.Ze,if_pos (by omega)]
  have hw:IntKind.i64.wrap (1+(j:Int))=((j+1:Nat):Int):=by rw[wrap64 (by omega)]; omega
  have hw2:IntKind.i64.wrap ((rawTo x.t[k] d j).1+1)=(rawTo x.t[k] d j).1+1:=wrap64 (by unfold degM at h3; omega)
  rw[hw,hw2]
  have hg:getF x.t[k] ((j+1:Nat):Int)=x.t[k] ⟨j+1,by omega⟩:=ZfI _ (by simp; omega)
  have hm:=ZaE (a:=absI (getF x.t[k] ((j+1:Nat):Int))) (b:=(rawTo x.t[k] d j).1+1) (by unfold absI; split <;> omega) (by omega)
  refine⟨x.t[k],idxN hk,by omega,_,ZnX (by rw[hg]; exact (hr _).1) (by rw[hg]; exact (hr _).2),by omega,by omega,by omega,?_⟩
  show _=_
  have hs8:∀ e:Int,getF (setF (rawTo x.t[k] d j).2 (j:Int).toNat e) (j:Int)=e:=fun e=>by rw[getFN hj8]; simp[setF]
  rw[hs8,wrapN (by omega),wrap64 (by unfold degM at h3; omega)]
  rfl
 ·subst hs
  show (if (n:Int)<(n:Int) then _ else _:Comp _).wp _
  rw[Comp.Ze,if_neg (by omega)]
  rfl
def madeTo(x:ZF)(n:Nat)(d:Int):Nat→List Zc
 | 0=>[]
 | k+1=>match x.t[k]? with
  | some v=>if Int.tmod (getF v 0) 4=0 then madeTo x n d k else addT (madeTo x n d k) ⟨ratI (Int.tmod (getF v 0) 4),rawM v d n⟩
  | none=>madeTo x n d k
theorem raw0{x:ZF}(hx:RawOk x){v:Fin 5→Int}(hv:v ∈ x.t):-3≤Int.tmod (getF v 0) 4∧Int.tmod (getF v 0) 4≤3:=by
 have:=hx v hv 0
 rw[ZfI v (by decide)]
 exact tmod4 this.1 this.2
theorem Zg7{x:ZF}(hx:RawOk x){n:Nat}(hn:n≤4){d:Int}(hd:0≤d):∀ k:Nat,MadeOk (3*k) n d k (madeTo x n d k)
 | 0=>⟨List.Pairwise.nil,fun t ht=>by simp[madeTo] at ht,fun t ht=>by simp[madeTo] at ht,by simp[madeTo]⟩
 | k+1=>by
  have ih:=Zg7 hx hn hd k
  simp only[madeTo]
  split
  ·rename_i v hv
   have hr:=raw0 hx (List.mem_of_getElem? hv)
   split
   ·exact ih.grow (by omega) (by omega)
   ·rename_i h0
    exact (ih.add (by omega) h0 hr.1 hr.2 (ZlD hd hn)).grow (by omega) (by omega)
  ·exact ih.grow (by omega) (by omega)
def madeP(x:ZF)(n:Nat)(d:Int)(k:Nat):List Zc:=madeTo x n d (min k x.t.length)
theorem Znz{x:ZF}(hx:RawOk x){n:Nat}(hn:n≤4){d:Int}(hd:0≤d)(k:Nat):MadeOk (3*k) n d k (madeP x n d k):=(Zg7 hx hn hd _).grow (by omega) (by omega)
theorem Znl{x:ZF}(hx:RawOk x){n:Nat}(hn:n≤4){d:Int}(hd0:0≤d)(hd:d≤100){k:Nat}(hk:k≤4):(ZhZ x (n:Int) d (k:Int)).Ret (madeP x n d k):=by
 refine Comp.Zh (min k x.t.length) (fun j s=>s=(madeTo x n d j,(j:Int))) (fun j s hj hs=>?_) (fun s hs=>?_) rfl
 ·subst hs
  have hj':j<x.t.length:=by omega
  have ih:=Zg7 hx hn hd0 j
  have hr:=raw0 hx (List.getElem_mem hj')
  show (if (j:Int)<(x.t.length:Int) then _ else _:Comp _).wp _
  rw[Comp.Ze,if_pos (by omega),Comp.Ze,if_pos (by omega)]
  show (Comp.next _ _).wp _
  refine (Zmv hx hn hd0 hd hj').then ?_
  have hw:IntKind.i64.wrap (Int.tmod (getF x.t[j] 0) 4)=Int.tmod (getF x.t[j] 0) 4:=wrap64 (by omega)
  have hm:=ZlD (v:=x.t[j]) hd0 hn
  refine⟨x.t[j],idxN hj',_,(by rw[hw]; exact Zco (by omega) (by omega)),_,Zco (by omega) (by omega),_,Zmx hr.1 hr.2 (ZjC hm.1 hm.2.2 (by omega)),?_⟩
  have hlen:=ih.len
  by_cases h0:Int.tmod (getF x.t[j] 0) 4=0
  ·rw[if_pos h0]
   refine⟨_,Zk0 (by omega),?_⟩
   show _=_
   rw[wrapN (by omega)]
   simp only[madeTo,List.getElem?_eq_getElem hj',if_pos h0]
  ·rw[if_neg h0]
   refine⟨_,ZhB (by omega) (ih.near (by omega) hr.1 hr.2),?_⟩
   show _=_
   rw[wrapN (by omega)]
   simp only[madeTo,List.getElem?_eq_getElem hj',if_neg h0]
 ·subst hs
  show (if ((min k x.t.length:Nat):Int)<(x.t.length:Int) then _ else _:Comp _).wp _
  by_cases h:min k x.t.length<x.t.length
  ·rw[Comp.Ze,if_pos (by omega),Comp.Ze,if_neg (by omega)]
   rfl
  ·rw[Comp.Ze,if_neg (by omega)]
   rfl
end Go.EL

namespace Go.EL
open Go Go.RowKit
def letterB(b:Int):Bool:=decide (65≤b∧b≤90) || decide (97≤b∧b≤122)
def restB(b:Int):Bool:=decide (48≤b∧b≤57) || decide (b=95)
def charB(i:Nat)(b:Int):Bool:=letterB b || (decide (0<i) && restB b)
def nameB(s:ByteArray):Bool:=decide (1≤s.size∧s.size≤12) && (List.range s.size).all fun i=>charB i (byteAt s (i:Int))
theorem Zht{s:ByteArray}{i:Nat}(hi:i<s.size)(h:charB i (byteAt s (i:Int))=false):nameB s=false:=by
 unfold nameB
 rw[Bool.and_eq_false_iff]
 right
 rw[List.all_eq_false]
 exact⟨i,List.mem_range.2 hi,by rw[h]; decide⟩
theorem ZkA{s:ByteArray}(h1:1≤s.size∧s.size≤12)(h:∀ i,i<s.size→charB i (byteAt s (i:Int))=true):nameB s=true:=by
 unfold nameB
 rw[decide_eq_true h1,Bool.true_and,List.all_eq_true]
 exact fun i hi=>h i (List.mem_range.1 hi)
theorem ZiI(b:Int):(Zcx b).Ret (letterB b):=by
 unfold Zcx letterB
 by_cases h1:65≤b <;> by_cases h2:b≤90 <;> by_cases h3:97≤b <;> simp[h1,h2,h3] <;> first|rfl|omega
theorem Zma(b:Int):(Zb5 b).Ret (restB b):=by
 unfold Zb5 restB
 by_cases h1:48≤b <;> by_cases h2:b≤57 <;> simp[h1,h2] <;> first|rfl|omega
theorem ZhY(s:ByteArray):(Zc1 s).Ret (nameB s):=by
 unfold Zc1
 by_cases h1:(s.size:Int)<1
 ·rw[if_pos h1]
  show false=nameB s
  unfold nameB
  rw[decide_eq_false (by omega),Bool.false_and]
 rw[if_neg h1]
 by_cases h2:12<(s.size:Int)
 ·rw[if_pos h2]
  show false=nameB s
  unfold nameB
  rw[decide_eq_false (by omega),Bool.false_and]
 rw[if_neg h2]
 refine⟨by omega,_,ZiI _,?_⟩
 rw[Comp.Ze]
 cases h3:letterB (byteAt s 0) with
 | false=>
  rw[if_pos (by decide)]
  exact (Zht (i:=0) (by omega) (by unfold charB; rw[show ((0:Nat):Int)=0 from rfl,h3]; simp)).symm
 | true=>
  rw[if_neg (by decide)]
  show (Comp.next _ _).wp _
  refine Comp.Zh (s.size-1) (fun k st=>st=((k+1:Nat):Int)∧∀ i,i<k+1→charB i (byteAt s (i:Int))=true) (fun k st hk hs=>?_) (fun st hs=>?_) ⟨rfl,fun i hi=>?_⟩
  ·obtain⟨rfl,hi⟩:=hs
   have hstep:∀ {b:Int},b=byteAt s ((k+1:Nat):Int)→charB (k+1) b=true→∀ i,i<k+1+1→charB i (byteAt s (i:Int))=true:=by
    intro b hb hc i hik
    by_cases e:i=k+1
    ·subst e; rw[← hb]; exact hc
    ·exact hi i (by omega)
   rw[Comp.Ze,if_pos (by omega)]
   refine⟨by omega,_,ZiI _,?_⟩
   cases h4:letterB (byteAt s ((k+1:Nat):Int)) with
   | true=>exact⟨wrapN (by omega),hstep rfl (by unfold charB; rw[h4]; rfl)⟩
   | false=>
    have hno:restB (byteAt s ((k+1:Nat):Int))=false→false=nameB s:=fun h=>(Zht (i:=k+1) (by omega) (by unfold charB; rw[h4,h]; simp)).symm
    have hyes:restB (byteAt s ((k+1:Nat):Int))=true→∀ i,i<k+1+1→charB i (byteAt s (i:Int))=true:=fun h=>hstep rfl (by unfold charB; rw[h4,h]; simp)
    refine⟨by omega,?_⟩
    rw[Comp.Ze]
    unfold restB at hno hyes
    split
    ·refine⟨by omega,?_⟩
     rw[Comp.Ze]
     split
     ·rename_i a b
      exact⟨wrapN (by omega),hyes (by rw[decide_eq_true ⟨a,b⟩]; rfl)⟩
     ·rename_i a b
      refine⟨by omega,?_⟩
      rw[Comp.Ze]
      split
      ·rename_i c
       exact hno (by rw[decide_eq_false (fun h=>b h.2),decide_eq_false c]; rfl)
      ·rename_i c
       exact⟨wrapN (by omega),hyes (by rw[decide_eq_true (Classical.not_not.1 c)]; simp)⟩
    ·rename_i a
     refine⟨by omega,?_⟩
     rw[Comp.Ze]
     split
     ·rename_i c
      exact hno (by rw[decide_eq_false (fun h=>a h.1),decide_eq_false c]; rfl)
     ·rename_i c
      exact⟨wrapN (by omega),hyes (by rw[decide_eq_true (Classical.not_not.1 c)]; simp)⟩
  ·obtain⟨rfl,hi⟩:=hs
   rw[Comp.Ze,if_neg (by omega)]
   exact (ZkA (by omega) fun i hik=>hi i (by omega)).symm
  ·obtain rfl:i=0:=by omega
   unfold charB
   rw[show ((0:Nat):Int)=0 from rfl,h3]; rfl
theorem Zic(s:ByteArray)(i:Nat):((s.get! i).toNat:Int)=byteAt s (i:Int):=by
 unfold byteAt
 simp only[Int.toNat_natCast]
 congr 2
theorem Zl7{s:ByteArray}{p:Nat}(h:byteAt s (p:Int)<128):((Utf8.decode s p).1:Int)=byteAt s (p:Int)∧(Utf8.decode s p).2=1:=by
 have hb:=Zic s p
 unfold Utf8.decode
 simp only[Nat.add_zero]
 rw[if_pos (by omega)]
 exact⟨hb,rfl⟩
theorem decode_high{s:ByteArray}{p:Nat}(h:128≤byteAt s (p:Int)):128≤((Utf8.decode s p).1:Int):=by
 have hb:=Zic s p
 unfold Utf8.decode
 simp only[Nat.add_zero,Utf8.runeError]
 rw[if_neg (by omega)]
 split
 ·split
  ·rename_i h; omega
  ·omega
 ·split
  ·split
   ·rename_i h; simp at h; omega
   ·omega
  ·split
   ·split
    ·rename_i h; simp at h; omega
    ·omega
   ·omega
theorem Zfv{b:Int}(h:128≤b):letterB b=false:=by unfold letterB; rw[decide_eq_false (by omega),decide_eq_false (by omega)]; rfl
theorem Zhi{b:Int}(h:128≤b):restB b=false:=by unfold restB; rw[decide_eq_false (by omega),decide_eq_false (by omega)]; rfl
theorem ZiF(s:ByteArray):(Zb4 s).Ret (nameB s):=by
 unfold Zb4
 by_cases h1:(s.size:Int)<1
 ·rw[if_pos h1]
  show false=nameB s
  unfold nameB
  rw[decide_eq_false (by omega),Bool.false_and]
 rw[if_neg h1]
 by_cases h2:12<(s.size:Int)
 ·rw[if_pos h2]
  show false=nameB s
  unfold nameB
  rw[decide_eq_false (by omega),Bool.false_and]
 rw[if_neg h2]
 show (Comp.next _ _).wp _
 refine Comp.Zh s.size (fun k st=>st=k∧∀ i,i<k→charB i (byteAt s (i:Int))=true) (fun k st hk hs=>?_) (fun st hs=>?_) ⟨rfl,fun i hi=>by omega⟩
 ·obtain⟨rfl,hi⟩:=hs
  have hstep:charB st (byteAt s (st:Int))=true→∀ i,i<st+1→charB i (byteAt s (i:Int))=true:=by
   intro hc i hik
   by_cases e:i=st
   ·subst e; exact hc
   ·exact hi i (by omega)
  have hrune:letterB ((Utf8.decode s st).1:Int)=letterB (byteAt s (st:Int))∧restB ((Utf8.decode s st).1:Int)=restB (byteAt s (st:Int))∧(byteAt s (st:Int)<128→(Utf8.decode s st).2=1):=by
   by_cases hb:byteAt s (st:Int)<128
   ·obtain⟨e1,e2⟩:=Zl7 hb
    rw[e1]; exact⟨rfl,rfl,fun _=>e2⟩
   ·have hd:=decode_high (s:=s) (p:=st) (by omega)
    rw[Zfv hd,Zhi hd,Zfv (by omega),Zhi (by omega)]
    exact⟨rfl,rfl,fun h=>absurd h hb⟩
  obtain⟨e1,e2,e3⟩:=hrune
  have hk3:(ZQ s st (letterB ((Utf8.decode s st).1:Int))).wp (Out (fun s'=>s'=st+1∧∀ i,i<st+1→charB i (byteAt s (i:Int))=true) (fun ov=>(match ov with | .inl rv1=>Comp.ret rv1 | .inr ()=>ZaK:Comp Bool).wp fun a=>a=nameB s)):=by
   unfold ZQ
   rw[e1]
   have hlow:letterB (byteAt s (st:Int))=true∨restB (byteAt s (st:Int))=true→(Utf8.decode s st).2=1:=fun h=>e3 (by
    by_cases hb:byteAt s (st:Int)<128
    ·exact hb
    ·rw[Zfv (by omega),Zhi (by omega)] at h; simp at h)
   cases hl:letterB (byteAt s (st:Int)) with
   | true=>
    rw[if_pos rfl]
    exact⟨by rw[hlow (.inl hl)],hstep (by unfold charB; rw[hl]; rfl)⟩
   | false=>
    rw[if_neg (by decide),Comp.Ze]
    split
    ·rename_i h0
     obtain rfl:st=0:=by omega
     exact (Zht (i:=0) (by omega) (by unfold charB; rw[hl]; simp)).symm
    ·rename_i h0
     refine⟨_,Zma _,?_⟩
     rw[e2,Comp.Ze]
     cases hr:restB (byteAt s (st:Int)) with
     | false=>
      rw[if_pos (by decide)]
      exact (Zht (i:=st) hk (by unfold charB; rw[hl,hr]; simp)).symm
     | true=>
      rw[if_neg (by decide)]
      exact⟨by rw[hlow (.inr hr)],hstep (by unfold charB; rw[hl,hr,decide_eq_true (by omega)]; rfl)⟩
  have hlet:∀ {b:Bool},letterB ((Utf8.decode s st).1:Int)=b→(ZQ s st b).wp (Out (fun s'=>s'=st+1∧∀ i,i<st+1→charB i (byteAt s (i:Int))=true) (fun ov=>(match ov with | .inl rv1=>Comp.ret rv1 | .inr ()=>ZaK:Comp Bool).wp fun a=>a=nameB s)):=fun h=>by subst h; exact hk3
  show (if st<s.size then _ else _:Comp _).wp _
  rw[Comp.Ze,if_pos hk]
  generalize ((Utf8.decode s st).1:Int)=c at *
  rw[Comp.Ze]
  split
  ·rename_i a
   rw[Comp.Ze]
   split
   ·rename_i b
    exact hlet (by unfold letterB; rw[decide_eq_true ⟨a,b⟩]; rfl)
   ·rename_i b
    rw[Comp.Ze]
    split
    ·rename_i d
     refine hlet ?_
     unfold letterB
     rw[decide_eq_false (fun h=>b h.2),Bool.false_or]
     exact decide_eq_decide.2 ⟨fun h=>h.2,fun h=>⟨d,h⟩⟩
    ·rename_i d
     exact hlet (by unfold letterB; rw[decide_eq_false (fun h=>b h.2),decide_eq_false (fun h=>d h.1)]; rfl)
  ·rename_i a
   rw[Comp.Ze]
   split
   ·rename_i d
    omega
   ·rename_i d
    exact hlet (by unfold letterB; rw[decide_eq_false (fun h=>a h.1),decide_eq_false (fun h=>d h.1)]; rfl)
 ·obtain⟨rfl,hi⟩:=hs
  show (if s.size<s.size then _ else _:Comp _).wp _
  rw[Comp.Ze,if_neg (by omega)]
  exact (ZkA (by omega) hi).symm
end Go.EL

namespace Go.EL
open Go Go.RowKit
structure EqsOk (n:Nat) (next:Int) (l:List Za):Prop where
 len:l.length≤12
 ids:∀ q ∈ l,1≤q.id∧q.id<next
 inc:l.Pairwise fun a b=>a.id<b.id
 pol:∀ q ∈ l,PolOk q.p∧fitB q.p (n:Int)=true
structure Good (s:Zb):Prop where
 vars:s.vars.length≤4
 name:∀ v ∈ s.vars,nameB v=true
 diff:s.vars.Pairwise fun a b=>a≠b
 next:1≤s.next∧s.next≤1000000
 eqs:EqsOk s.vars.length s.next s.eqs
 neqs:EqsOk s.vars.length s.next s.neqs
 apart:∀ a ∈ s.eqs,∀ b ∈ s.neqs,a.id≠b.id
theorem ZiZ{p:List Zc}(h:PolOk p){n:Nat}(hn:n≤4)(hf:fitB p (n:Int)=true):(ZdW p (n:Int)).Ret true:=by
 obtain⟨h1,h2⟩:=(Zgb (p:=p) (n:=n) (by omega)).1 hf
 have hw:IntKind.u64.wrap (n:Int)=(n:Int):=by
  match n,hn with
  | 0,_=>rfl
  | 1,_=>rfl
  | 2,_=>rfl
  | 3,_=>rfl
  | 4,_=>rfl
 refine⟨true,Zgo h,_,ZfF h,?_⟩
 rw[Comp.Ze,if_pos ((Zlx (by omega)).2 h2)]
 refine⟨_,Zct h.len,by rw[hw]; omega,?_⟩
 have hu:=Zgj p
 have hs:=Zgk.2 h1
 rw[Nat.shiftRight_eq_div_pow] at hs
 have hlt:(usesP p).toNat<2 ^ n:=by
  rcases Nat.div_eq_zero_iff.1 hs with h|h
  ·have:=Nat.two_pow_pos n; omega
  ·exact h
 show _=_
 rw[hw,wrap64 (by omega)]
 refine decide_eq_true ?_
 match n,hn with
 | 0,_=>exact Int.lt_of_lt_of_le (show usesP p<1 by simp at hlt; omega) (by decide)
 | 1,_=>exact Int.lt_of_lt_of_le (show usesP p<2 by simp at hlt; omega) (by decide)
 | 2,_=>exact Int.lt_of_lt_of_le (show usesP p<4 by simp at hlt; omega) (by decide)
 | 3,_=>exact Int.lt_of_lt_of_le (show usesP p<8 by simp at hlt; omega) (by decide)
 | 4,_=>exact Int.lt_of_lt_of_le (show usesP p<16 by simp at hlt; omega) (by decide)
theorem Zkz{n:Nat}(hn:n≤4){next:Int}{l:List Za}(h:EqsOk n next l):(Zeo l (n:Int) next).Ret true:=by
 have hl:=h.len
 unfold Zeo
 rw[if_neg (by omega)]
 show (Comp.next _ _).wp _
 refine Comp.Zh l.length (fun k s=>s=(k:Int)) (fun k s hk hs=>?_) (fun s hs=>?_) rfl
 ·subst hs
  have hid:=h.ids _ (List.getElem_mem hk)
  obtain⟨hp,hf⟩:=h.pol _ (List.getElem_mem hk)
  rw[Comp.Ze,if_pos (by omega)]
  refine⟨l[k],idxN hk,?_⟩
  rw[Comp.Ze,if_neg (by omega)]
  refine⟨l[k],idxN hk,?_⟩
  rw[Comp.Ze,if_neg (by omega),Comp.Ze]
  split
  ·rename_i h0
   obtain⟨j,rfl⟩:∃ j,k=j+1:=⟨k-1,by omega⟩
   have hj:IntKind.i64.wrap (((j+1:Nat):Int)-1)=(j:Int):=by rw[wrap64 (by omega)]; omega
   rw[hj]
   have:=List.pairwise_iff_getElem.1 h.inc j (j+1) (by omega) hk (by omega)
   refine⟨l[j],idxN (by omega),l[j+1],idxN hk,?_⟩
   rw[Comp.Ze,if_neg (by omega)]
   refine⟨l[j+1],idxN hk,true,ZiZ hp hn hf,?_⟩
   rw[Comp.Ze,if_neg (by decide)]
   exact wrapN (by omega)
  ·refine⟨l[k],idxN hk,true,ZiZ hp hn hf,?_⟩
   rw[Comp.Ze,if_neg (by decide)]
   exact wrapN (by omega)
 ·subst hs
  rw[Comp.Ze,if_neg (by omega)]
  rfl
theorem ZjV{s:Zb}(h:Good s):(ZeQ s).Ret true:=by
 have hv:=h.vars
 have hn:=h.next
 have he:=h.eqs.len
 have hne:=h.neqs.len
 unfold ZeQ
 rw[if_neg (by omega),if_neg (by omega),if_neg (by omega)]
 refine⟨true,Zkz hv h.eqs,true,Zkz hv h.neqs,?_⟩
 rw[Comp.Ze,if_neg (by decide)]
 show (Comp.next _ _).wp _
 refine Comp.Zh s.vars.length (fun k st=>st=(k:Int)) (fun k st hk hs=>?_) (fun st hs=>?_) rfl
 ·subst hs
  rw[Comp.Ze,if_pos (by omega)]
  show (Comp.next _ _).wp _
  refine Comp.Zh k (fun j st=>st=(j:Int)) (fun j st hj hs=>?_) (fun st hs=>?_) rfl
  ·subst hs
   have:=List.pairwise_iff_getElem.1 h.diff j k (by omega) hk hj
   rw[Comp.Ze,if_pos (by omega)]
   refine⟨s.vars[k],idxN hk,s.vars[j],idxN (by omega),?_⟩
   rw[Comp.Ze,if_neg (fun e=>this e.symm)]
   exact wrapN (by omega)
  ·subst hs
   rw[Comp.Ze,if_neg (by omega)]
   show (Zcw s (k:Int)).wp _
   refine⟨s.vars[k],idxN hk,_,ZhY _,?_⟩
   rw[h.name _ (List.getElem_mem hk),Comp.Ze,if_neg (by decide)]
   exact wrapN (by omega)
 ·subst hs
  rw[Comp.Ze,if_neg (by omega)]
  show (Zcv s).wp _
  show (Comp.next _ _).wp _
  refine Comp.Zh s.eqs.length (fun k st=>st=(k:Int)) (fun k st hk hs=>?_) (fun st hs=>?_) rfl
  ·subst hs
   rw[Comp.Ze,if_pos (by omega)]
   show (Comp.next _ _).wp _
   refine Comp.Zh s.neqs.length (fun j st=>st=(j:Int)) (fun j st hj hs=>?_) (fun st hs=>?_) rfl
   ·subst hs
    rw[Comp.Ze,if_pos (by omega)]
    refine⟨s.eqs[k],idxN hk,s.neqs[j],idxN hj,?_⟩
    rw[Comp.Ze,if_neg (h.apart _ (List.getElem_mem hk) _ (List.getElem_mem hj))]
    exact wrapN (by omega)
   ·subst hs
    rw[Comp.Ze,if_neg (by omega)]
    exact wrapN (by omega)
  ·subst hs
   rw[Comp.Ze,if_neg (by omega)]
   rfl
def idKey(l:List Int):List (Int×Bool):=l.map fun i=>(i,true)
theorem ZmJ{l:List Int}{i:Int}(h:i ∉ l):mput (idKey l) i true=idKey (l++[i])∧mget (idKey l) i=none:=by
 have hn:∀ p ∈ idKey l,p.1≠i:=fun p hp e=>by
  obtain⟨j,hj,rfl⟩:=List.mem_map.1 hp
  exact h (e ▸ hj)
 exact⟨by rw[Zdf hn]; simp[idKey],Zge hn⟩
def idsOf(l:List Za):List Int:=l.map (·.id)
theorem Zjc{l:List Za}(h:l.Pairwise fun a b=>a.id<b.id){k:Nat}(hk:k<l.length):l[k].id ∉ idsOf (l.take k):=fun hm=>by
 obtain⟨q,hq,e⟩:=List.mem_map.1 hm
 obtain⟨i,hi,rfl⟩:=List.mem_iff_getElem.1 hq
 simp only[List.length_take] at hi
 rw[List.getElem_take] at e
 have:=List.pairwise_iff_getElem.1 h i k (by omega) hk (by omega)
 omega
theorem Ziv{s:Zb}(hv:s.vars.length≤4)(hnx:s.next≤1000000){l:List Za}(h:EqsOk s.vars.length s.next l){m:List Int}(hm:∀ q ∈ l,q.id ∉ m)(hml:m.length≤100):
  (Ze5 s l (0,idKey m)).Ret (.inr (idKey (m++idsOf l))):=by
 have hl:=h.len
 refine Comp.Zh l.length (fun k st=>st=((k:Int),idKey (m++idsOf (l.take k)))) (fun k st hk hs=>?_) (fun st hs=>?_) (by simp[idsOf])
 ·subst hs
  have hid:=h.ids _ (List.getElem_mem hk)
  obtain⟨hp,hf⟩:=h.pol _ (List.getElem_mem hk)
  have hnew:l[k].id ∉ m++idsOf (l.take k):=fun hh=>by
   rcases List.mem_append.1 hh with hh|hh
   ·exact hm _ (List.getElem_mem hk) hh
   ·exact Zjc h.inc hk hh
  obtain⟨hput,hget⟩:=ZmJ hnew
  have hwf:(Lit.int IntKind.i64 l[k].id).wf=true:=by
   simp only[Lit.wf,Bool.and_eq_true,decide_eq_true_eq]
   exact⟨Int.le_trans (by decide) hid.1,Int.le_trans (Int.le_of_lt (Int.lt_of_lt_of_le hid.2 hnx)) (by decide)⟩
  have hk5:(Zbz s (k:Int) (idKey (m++idsOf (l.take k))) l[k]).wp (Out (fun s'=>s'=(((k+1:Nat):Int),idKey (m++idsOf (l.take (k+1))))) (fun a=>a=(.inr (idKey (m++idsOf l)):Bool⊕List (Int×Bool)))):=by
   refine⟨⟨hwf,?_⟩,true,ZiV hp (by omega) |> (hf ▸ ·),?_⟩
   ·rw[hput]
    simp[idKey,idsOf,small]; omega
   ·rw[Comp.Ze,if_neg (by decide)]
    show _=_
    have e:idsOf (l.take (k+1))=idsOf (l.take k)++[l[k].id]:=by
     unfold idsOf
     rw[← List.take_append_getElem hk,List.map_append]
     rfl
    rw[hput,wrapN (by omega),List.append_assoc,e]
  show (if (k:Int)<(l.length:Int) then _ else _:Comp _).wp _
  rw[Comp.Ze,if_pos (by omega)]
  refine⟨l[k],idxN hk,?_⟩
  rw[Comp.Ze,if_neg (by omega),Comp.Ze,if_neg (by omega)]
  refine⟨hwf,?_⟩
  rw[hget,Comp.Ze,if_neg (by simp),Comp.Ze]
  split
  ·rename_i h0
   obtain⟨j,rfl⟩:∃ j,k=j+1:=⟨k-1,by omega⟩
   have hj:IntKind.i64.wrap (((j+1:Nat):Int)-1)=(j:Int):=by rw[wrap64 (by omega)]; omega
   rw[hj]
   have:=List.pairwise_iff_getElem.1 h.inc j (j+1) (by omega) hk (by omega)
   refine⟨l[j],idxN (by omega),?_⟩
   rw[Comp.Ze,if_neg (by omega)]
   exact hk5
  ·exact hk5
 ·subst hs
  show (if ((l.length:Nat):Int)<(l.length:Int) then _ else _:Comp _).wp _
  rw[Comp.Ze,if_neg (by omega),List.take_length]
  rfl
def nameKey(l:List ByteArray):List (ByteArray×Bool):=l.map fun i=>(i,true)
theorem Zli{l:List ByteArray}{i:ByteArray}(h:i ∉ l):mput (nameKey l) i true=nameKey (l++[i])∧mget (nameKey l) i=none:=by
 have hn:∀ p ∈ nameKey l,p.1≠i:=fun p hp e=>by
  obtain⟨j,hj,rfl⟩:=List.mem_map.1 hp
  exact h (e ▸ hj)
 exact⟨by rw[Zdf hn]; simp[nameKey],Zge hn⟩
theorem ZjB{v:ByteArray}(h:nameB v=true):v.size≤12:=by
 unfold nameB at h
 rw[Bool.and_eq_true,decide_eq_true_eq] at h
 exact h.1.2
theorem Zmy{s:Zb}(h:Good s):(ZbA s).Ret true:=by
 have he:=h.eqs.len
 show (Comp.next _ _).wp _
 refine Comp.Zh 2 (fun k st=>st=((k:Int),idKey (if k=0 then [] else if k=1 then idsOf s.eqs else idsOf s.eqs++idsOf s.neqs))) (fun k st hk hs=>?_) (fun st hs=>?_) rfl
 ·subst hs
  rcases (show k=0∨k=1 by omega) with rfl|rfl
  ·refine⟨s.eqs,⟨by omega,rfl⟩,?_⟩
   rw[Comp.Ze,if_neg (by omega)]
   show (Comp.next _ _).wp _
   refine (Ziv h.vars h.next.2 h.eqs (m:=[]) (fun _ _=>by simp) (by simp)).then ?_
   rfl
  ·have hne:=h.neqs.len
   refine⟨s.neqs,⟨by omega,rfl⟩,?_⟩
   rw[Comp.Ze,if_neg (by omega)]
   show (Comp.next _ _).wp _
   refine (Ziv h.vars h.next.2 h.neqs (m:=idsOf s.eqs) (fun q hq hm=>?_) (by simp[idsOf]; omega)).then ?_
   ·obtain⟨a,ha,e⟩:=List.mem_map.1 hm
    exact h.apart a ha q hq e
   ·rfl
 ·subst hs
  rfl
theorem ZdJ{s:Zb}(h:Good s):(Zba s).Ret true:=by
 have hv:=h.vars
 have hn:=h.next
 unfold Zba
 rw[if_neg (by omega),if_neg (by omega),if_neg (by omega)]
 show (Comp.next _ _).wp _
 refine Comp.Zh s.vars.length (fun k st=>st=((k:Int),nameKey (s.vars.take k))) (fun k st hk hs=>?_) (fun st hs=>?_) rfl
 ·subst hs
  have hnew:s.vars[k] ∉ s.vars.take k:=fun hm=>by
   obtain⟨i,hi,e⟩:=List.mem_iff_getElem.1 hm
   simp only[List.length_take] at hi
   rw[List.getElem_take] at e
   exact List.pairwise_iff_getElem.1 h.diff i k (by omega) hk (by omega) e
  obtain⟨hput,hget⟩:=Zli hnew
  have hnm:=h.name _ (List.getElem_mem hk)
  have hsz:=ZjB hnm
  show (if (k:Int)<(s.vars.length:Int) then _ else _:Comp _).wp _
  rw[Comp.Ze,if_pos (by omega)]
  refine⟨s.vars[k],idxN hk,true,hnm ▸ ZiF _,by omega,?_⟩
  rw[hget,Comp.Ze,if_neg (by simp),hput]
  refine⟨⟨by omega,by simp[nameKey,small]; omega⟩,?_⟩
  show _=_
  rw[wrapN (by omega),List.take_append_getElem hk]
 ·subst hs
  show (if ((s.vars.length:Nat):Int)<(s.vars.length:Int) then _ else _:Comp _).wp _
  rw[Comp.Ze,if_neg (by omega)]
  exact Zmy h
theorem ZeW(v:ByteArray):(Zdp v).Ret (nameB v):=by
 cases hb:nameB v with
 | true=>
  have hg:Good ⟨[v],[],[],1⟩:=⟨by simp,by simpa using hb,by simp,by simp,⟨by simp,by simp,by simp,by simp⟩,⟨by simp,by simp,by simp,by simp⟩,by simp⟩
  exact⟨true,ZdJ hg,rfl⟩
 | false=>
  refine⟨false,?_,rfl⟩
  show (Comp.next _ _).wp _
  refine Comp.Zm ?_
  exact⟨v,⟨by omega,rfl⟩,false,hb ▸ ZiF v,rfl⟩
end Go.EL

namespace Go.EL
open Go Go.RowKit
def findFrom(id:Int):List Za→Nat→Int
 | [],_=>-1
 | x::xs,k=>if x.id=id then (k:Int) else findFrom id xs (k+1)
def findI(l:List Za)(id:Int):Int:=findFrom id l 0
theorem ZaJ{l:List Za}(hl:l.length≤100)(id:Int):(Zb6 l id).Ret (findI l id):=by
 refine Comp.Zh l.length (fun k s=>s=(k:Int)∧findI l id=findFrom id (l.drop k) k) (fun k s hk hs=>?_) (fun s hs=>?_) ⟨rfl,rfl⟩
 ·obtain⟨rfl,he⟩:=hs
  rw[List.drop_eq_getElem_cons hk] at he
  simp only[findFrom] at he
  rw[Comp.Ze,if_pos (by omega)]
  refine⟨l[k],idxN hk,?_⟩
  rw[Comp.Ze]
  split
  ·rename_i h
   rw[if_pos h] at he
   exact he.symm
  ·rename_i h
   rw[if_neg h] at he
   exact⟨wrapN (by omega),he⟩
 ·obtain⟨rfl,he⟩:=hs
  rw[Comp.Ze,if_neg (by omega)]
  rw[List.drop_length] at he
  exact he.symm
def idxFrom(v:ByteArray):List ByteArray→Nat→Int
 | [],_=>-1
 | x::xs,k=>if x=v then (k:Int) else idxFrom v xs (k+1)
def idxI(l:List ByteArray)(v:ByteArray):Int:=idxFrom v l 0
theorem Zjz{s:Zb}(hl:s.vars.length≤100)(v:ByteArray):(ZeS s v).Ret (idxI s.vars v):=by
 refine Comp.Zh s.vars.length (fun k st=>st=(k:Int)∧idxI s.vars v=idxFrom v (s.vars.drop k) k) (fun k st hk hs=>?_) (fun st hs=>?_) ⟨rfl,rfl⟩
 ·obtain⟨rfl,he⟩:=hs
  rw[List.drop_eq_getElem_cons hk] at he
  simp only[idxFrom] at he
  rw[Comp.Ze,if_pos (by omega)]
  refine⟨s.vars[k],idxN hk,?_⟩
  rw[Comp.Ze]
  split
  ·rename_i h
   rw[if_pos h] at he
   exact he.symm
  ·rename_i h
   rw[if_neg h] at he
   exact⟨wrapN (by omega),he⟩
 ·obtain⟨rfl,he⟩:=hs
  rw[Comp.Ze,if_neg (by omega)]
  rw[List.drop_length] at he
  exact he.symm
theorem Zjl{l:List ByteArray}(hl:l.length≤100)(v:ByteArray):(Z8 l v).Ret (idxI l v):=by
 refine Comp.Zh l.length (fun k st=>st=(k:Int)∧idxI l v=idxFrom v (l.drop k) k) (fun k st hk hs=>?_) (fun st hs=>?_) ⟨rfl,rfl⟩
 ·obtain⟨rfl,he⟩:=hs
  rw[List.drop_eq_getElem_cons hk] at he
  simp only[idxFrom] at he
  rw[Comp.Ze,if_pos (by omega)]
  refine⟨l[k],idxN hk,?_⟩
  rw[Comp.Ze]
  split
  ·rename_i h
   rw[if_pos h.symm] at he
   exact he.symm
  ·rename_i h
   rw[if_neg (fun e=>h e.symm)] at he
   exact⟨wrapN (by omega),he⟩
 ·obtain⟨rfl,he⟩:=hs
  rw[Comp.Ze,if_neg (by omega)]
  rw[List.drop_length] at he
  exact he.symm
theorem Zj6{l:List ByteArray}(hl:l.length≤100)(v:ByteArray):(Zaf l v).Ret (decide (0≤idxI l v)):=⟨_,Zjl hl v,rfl⟩
def dropL(l:List Za)(id:Int):List Za:=l.filter fun q=>decide (¬ q.id=id)
theorem ZZ{α:Type}{l:List α}{k:Nat}(hk:k<l.length)(p:α→Bool):(l.take (k+1)).filter p=(l.take k).filter p++(if p l[k]=true then [l[k]] else []):=by
 rw[← List.take_append_getElem hk,List.filter_append]
 congr 1
 by_cases h:p l[k]=true <;> simp[h]
theorem Zf8{l:List Za}(hl:l.length≤100)(id:Int):(Zc2 l id).Ret (dropL l id):=by
 show (Comp.next _ _).wp _
 refine Comp.Zh l.length (fun k s=>s=(dropL (l.take k) id,(k:Int))) (fun k s hk hs=>?_) (fun s hs=>?_) rfl
 ·subst hs
  have e:=ZZ hk fun q=>decide (¬ q.id=id)
  have hlen:(dropL (l.take k) id).length≤k:=Nat.le_trans (List.length_filter_le _ _) (by simp; omega)
  show (if (k:Int)<(l.length:Int) then _ else _:Comp _).wp _
  rw[Comp.Ze,if_pos (by omega)]
  refine⟨l[k],idxN hk,?_⟩
  rw[Comp.Ze]
  split
  ·rename_i h
   refine⟨l[k],idxN hk,by simp[small]; omega,?_⟩
   show _=_
   rw[wrapN (by omega)]
   unfold dropL at *
   rw[e,if_pos (decide_eq_true h)]
  ·rename_i h
   show _=_
   rw[wrapN (by omega)]
   unfold dropL at *
   rw[e,if_neg (by simpa using h),List.append_nil]
 ·subst hs
  show (if ((l.length:Nat):Int)<(l.length:Int) then _ else _:Comp _).wp _
  rw[Comp.Ze,if_neg (by omega),List.take_length]
  rfl
def putL(l:List Za)(x:Za):List Za:=l.filter (fun q=>decide (q.id<x.id))++x::l.filter fun q=>decide (x.id<q.id)
theorem filter_all{l:List Za}{p:Za→Bool}(h:∀ q ∈ l,p q=true):l.filter p=l:=List.filter_eq_self.2 h
theorem filter_none{l:List Za}{p:Za→Bool}(h:∀ q ∈ l,p q=false):l.filter p=[]:=List.filter_eq_nil_iff.2 fun q hq=>by rw[h q hq]; decide
theorem Zd8{l:List Za}(hl:l.length≤100)(hi:l.Pairwise fun a b=>a.id<b.id)(x:Za):(Zch l x).Ret (putL l x):=by
 show (Comp.next _ _).wp _
 refine Comp.Zh l.length (fun k s=>(s=(l.take k,false,(k:Int))∧∀ q ∈ l.take k,q.id<x.id)∨(s=(putL (l.take k) x,true,(k:Int))∧∃ q ∈ l.take k,x.id≤q.id)) (fun k s hk hs=>?_) (fun s hs=>?_) (.inl ⟨rfl,by simp⟩)
 ·have elt:=ZZ hk fun q=>decide (q.id<x.id)
  have egt:=ZZ hk fun q=>decide (x.id<q.id)
  have hlen:(putL (l.take k) x).length≤2*k+1:=by
   unfold putL
   have h1:=List.length_filter_le (fun q:Za=>decide (q.id<x.id)) (l.take k)
   have h2:=List.length_filter_le (fun q:Za=>decide (x.id<q.id)) (l.take k)
   simp only[List.length_append,List.length_cons,List.length_take] at *
   omega
  have hmem:l[k] ∈ l.take (k+1):=by rw[← List.take_append_getElem hk]; exact List.mem_append_right _ (List.mem_singleton.2 rfl)
  rcases hs with ⟨rfl,hs⟩|⟨rfl,q,hq,hqx⟩
  ·rw[Comp.Ze,if_pos (by omega),Comp.Ze,if_neg (by decide)]
   refine⟨l[k],idxN hk,?_⟩
   have e1:(l.take k).filter (fun q=>decide (q.id<x.id))=l.take k:=filter_all fun q hq=>decide_eq_true (hs q hq)
   have e2:(l.take k).filter (fun q=>decide (x.id<q.id))=[]:=filter_none fun q hq=>decide_eq_false (by have:=hs q hq; omega)
   rw[Comp.Ze]
   split
   ·rename_i hx
    refine⟨by simp[small]; omega,l[k],idxN hk,?_⟩
    rw[Comp.Ze]
    split
    ·rename_i hne
     refine⟨l[k],idxN hk,by simp[small]; omega,.inr ⟨?_,l[k],hmem,hx⟩⟩
     rw[wrapN (by omega)]
     unfold putL
     rw[elt,egt,e1,e2,if_neg (by simp; omega),if_pos (by simp; omega)]
     simp
    ·rename_i hne
     refine .inr ⟨?_,l[k],hmem,hx⟩
     rw[wrapN (by omega)]
     unfold putL
     rw[elt,egt,e1,e2,if_neg (by simp; omega),if_neg (by simp; omega)]
     simp
   ·rename_i hx
    refine⟨l[k],idxN hk,?_⟩
    rw[Comp.Ze,if_pos (by omega)]
    refine⟨l[k],idxN hk,by simp[small]; omega,.inl ⟨by rw[wrapN (by omega),List.take_append_getElem hk],fun q hq=>?_⟩⟩
    rw[← List.take_append_getElem hk] at hq
    rcases List.mem_append.1 hq with hq|hq
    ·exact hs q hq
    ·rw[List.mem_singleton] at hq; subst hq; omega
  ·have hgt:x.id<l[k].id:=by
    obtain⟨i,hi',rfl⟩:=List.mem_iff_getElem.1 hq
    simp only[List.length_take] at hi'
    rw[List.getElem_take] at hqx
    have:=List.pairwise_iff_getElem.1 hi i k (by omega) hk (by omega)
    omega
   rw[Comp.Ze,if_pos (by omega),Comp.Ze,if_pos rfl]
   refine⟨l[k],idxN hk,?_⟩
   rw[Comp.Ze,if_pos (by omega)]
   refine⟨l[k],idxN hk,by simp[small]; omega,.inr ⟨?_,l[k],hmem,by omega⟩⟩
   rw[wrapN (by omega)]
   unfold putL
   rw[elt,egt,if_neg (by simp; omega),if_pos (by simp; omega)]
   simp
 ·rcases hs with ⟨rfl,hs⟩|⟨rfl,q,hq,hqx⟩
  ·rw[Comp.Ze,if_neg (by omega)]
   rw[List.take_length] at hs ⊢
   refine⟨by simp[small]; omega,?_⟩
   show _=putL l x
   unfold putL
   rw[filter_all fun q hq=>decide_eq_true (hs q hq),filter_none fun q hq=>decide_eq_false (by have:=hs q hq; omega)]
  ·rw[Comp.Ze,if_neg (by omega),List.take_length]
   rfl
def movedL(π:M)(l:List Za):List Za:=l.map fun q=>⟨q.id,permP π q.p⟩
theorem Zck{π:M}(h:IsPerm π){l:List Za}(hl:l.length≤100)(hp:∀ q ∈ l,PolOk q.p):(Zbb l π).Ret (movedL π l):=by
 show (Comp.next _ _).wp _
 refine Comp.Zh l.length (fun k s=>s=(movedL π (l.take k),(k:Int))) (fun k s hk hs=>?_) (fun s hs=>?_) rfl
 ·subst hs
  show (if (k:Int)<(l.length:Int) then _ else _:Comp _).wp _
  rw[Comp.Ze,if_pos (by omega)]
  refine⟨l[k],idxN hk,_,Ziu h (hp _ (List.getElem_mem hk)),l[k],idxN hk,by simp[movedL,small]; omega,?_⟩
  show _=_
  rw[wrapN (by omega)]
  unfold movedL
  rw[← List.take_append_getElem hk,List.map_append]
  rfl
 ·subst hs
  show (if ((l.length:Nat):Int)<(l.length:Int) then _ else _:Comp _).wp _
  rw[Comp.Ze,if_neg (by omega),List.take_length]
  rfl
end Go.EL

namespace Go.EL
open Go Go.RowKit
def idM:M:=fun i=>(i.val:Int)
def rotF(a b:Nat):M:=fun i=>if i.val=a then (b:Int) else if a<i.val∧i.val≤b then (i.val:Int)-1 else if i.val<a∧b≤i.val then (i.val:Int)+1 else (i.val:Int)
def swapF(a b:Nat):M:=setF (setF idM a (b:Int)) b (a:Int)
theorem Zll:(between 0 4 fun a=>between 0 4 fun b=>runs 30 (ZaA a b) (rotF a.toNat b.toNat))=true:=by decide +kernel
theorem Zfz{a b:Nat}(ha:a≤4)(hb:b≤4):(ZaA (a:Int) (b:Int)).Ret (rotF a b):=by
 have:=ZO (ZO Zll (x:=(a:Int)) (by omega) (by omega)) (x:=(b:Int)) (by omega) (by omega)
 exact Z4 (by simpa using this)
theorem Zey:Zbr.Ret idM:=Comp.Ret.ZcL 20 (by decide +kernel)
theorem ZkH:∀ a b:Fin 5,(∀ i:Fin 8,0≤rotF a.val b.val i∧rotF a.val b.val i<8)∧∀ i j:Fin 8,rotF a.val b.val i=rotF a.val b.val j→i=j:=by decide +kernel
theorem ZaY{a b:Nat}(ha:a≤4)(hb:b≤4):IsPerm (rotF a b):=by
 obtain⟨h1,h2⟩:=ZkH ⟨a,by omega⟩ ⟨b,by omega⟩
 exact⟨h1,h2⟩
theorem Zj2:∀ a b:Fin 5,(∀ i:Fin 8,0≤swapF a.val b.val i∧swapF a.val b.val i<8)∧∀ i j:Fin 8,swapF a.val b.val i=swapF a.val b.val j→i=j:=by decide +kernel
theorem swap_perm{a b:Nat}(ha:a≤4)(hb:b≤4):IsPerm (swapF a b):=by
 obtain⟨h1,h2⟩:=Zj2 ⟨a,by omega⟩ ⟨b,by omega⟩
 exact⟨h1,h2⟩
theorem ZnH:rotF 0 0=idM:=by decide +kernel
theorem ZM{f:Unit→Comp Bool}{b:Bool}(h:(f ()).Ret b)(e:Int):(Zk f e).Ret (if b=true then 0 else e):=by
 refine⟨b,h,?_⟩
 rw[Comp.Ze]
 split <;> rfl
theorem Zcj{l:List (Unit→Comp Int)}(hl:l.length≤100){k:Nat}(hk:k<l.length){e:Int}(h0:∀ j (hj:j<l.length),j<k→(l[j] ()).Ret 0)(h:(l[k] ()).Ret e)(he:e≠0):(Zy l).Ret e:=by
 show (Comp.next _ _).wp _
 refine Comp.ZeC (fun s=>∃ j:Nat,s=(j:Int)∧j≤k) (fun s=>k-s.toNat) (fun s hs=>?_) _ ⟨0,rfl,by omega⟩
 obtain⟨j,rfl,hj⟩:=hs
 show (if (j:Int)<(l.length:Int) then _ else _:Comp _).wp _
 rw[Comp.Ze,if_pos (by omega)]
 by_cases hjk:j=k
 ·subst hjk
  refine⟨l[j],idxN hk,e,h,?_⟩
  rw[Comp.Ze,if_pos he]
  rfl
 ·refine⟨l[j],idxN (by omega),0,h0 j (by omega) (by omega),?_⟩
  rw[Comp.Ze,if_neg (by decide)]
  exact⟨⟨j+1,wrapN (by omega),by omega⟩,by rw[wrapN (by omega)]; simp; omega⟩
theorem Zh9{l:List (Unit→Comp Int)}(hl:l.length≤100)(h0:∀ j (hj:j<l.length),(l[j] ()).Ret 0):(Zy l).Ret 0:=by
 show (Comp.next _ _).wp _
 refine Comp.Zh l.length (fun k s=>s=(k:Int)) (fun k s hk hs=>?_) (fun s hs=>?_) rfl
 ·subst hs
  show (if (k:Int)<(l.length:Int) then _ else _:Comp _).wp _
  rw[Comp.Ze,if_pos (by omega)]
  refine⟨l[k],idxN hk,0,h0 k hk,?_⟩
  rw[Comp.Ze,if_neg (by decide)]
  exact wrapN (by omega)
 ·subst hs
  show (if ((l.length:Nat):Int)<(l.length:Int) then _ else _:Comp _).wp _
  rw[Comp.Ze,if_neg (by omega)]
  rfl
theorem ZeJ{l:List ByteArray}(hl:l.length≤100):(ZK l).Ret l:=by
 refine⟨fun e=>by subst e; rfl,by simp[small]; omega,rfl⟩
theorem ZdS{l:List Za}(hl:l.length≤100):(Zz l).Ret l:=by
 refine⟨fun e=>by subst e; rfl,by simp[small]; omega,rfl⟩
theorem Zix{π:M}(h:IsPerm π){l:List Za}(hl:l.length≤100)(hp:∀ q ∈ l,PolOk q.p):(ZI l π).Ret (movedL π l):=by
 refine⟨⟨by omega,by omega⟩,?_⟩
 show (Comp.next _ _).wp _
 refine Comp.Zh l.length (fun k s=>s=(movedL π (l.take k)++List.replicate (l.length-k) (Za.mk 0 []),(k:Int))) (fun k s hk hs=>?_) (fun s hs=>?_) (by simp[movedL])
 ·subst hs
  have hlen:(movedL π (l.take k)).length=k:=by simp[movedL]; omega
  have hrep:List.replicate (l.length-k) (Za.mk 0 [])=Za.mk 0 []::List.replicate (l.length-(k+1)) (Za.mk 0 []):=by
   rw[show l.length-k=(l.length-(k+1))+1 by omega,List.replicate_succ]
  show (if (k:Int)<(l.length:Int) then _ else _:Comp _).wp _
  rw[Comp.Ze,if_pos (by omega)]
  refine⟨l[k],idxN hk,⟨l[k].id,permP π l[k].p⟩,⟨_,ZkW h (hp _ (List.getElem_mem hk)),rfl⟩,Za.mk 0 [],⟨by omega,?_⟩,?_⟩
  ·rw[Int.toNat_natCast,List.getElem?_append_right (by omega),hlen,Nat.sub_self,hrep]; rfl
  ·show _=_
   rw[wrapN (by omega),Int.toNat_natCast,List.set_append_right _ _ (by omega),hlen,Nat.sub_self,hrep,List.set_cons_zero]
   have e:movedL π (l.take (k+1))=movedL π (l.take k)++[⟨l[k].id,permP π l[k].p⟩]:=by
    unfold movedL
    rw[← List.take_append_getElem hk,List.map_append]; rfl
   rw[e,List.append_assoc]; rfl
 ·subst hs
  show (if ((l.length:Nat):Int)<(l.length:Int) then _ else _:Comp _).wp _
  rw[Comp.Ze,if_neg (by omega),List.take_length,Nat.sub_self]
  show _=_
  simp
def permS(π:M)(s:Zb):Zb:=⟨s.vars,movedL π s.eqs,movedL π s.neqs,s.next⟩
theorem Zfy{π:M}(h:IsPerm π){s:Zb}(hg:Good s):(ZbE s π).Ret (permS π s):=
 ⟨_,Zix h (by have:=hg.eqs.len; omega) (fun q hq=>(hg.eqs.pol q hq).1),_,Zix h (by have:=hg.neqs.len; omega) (fun q hq=>(hg.neqs.pol q hq).1),rfl⟩
end Go.EL

namespace Go.EL
open Go Go.RowKit
def usedL(i:Fin 8)(l:List Za):Bool:=l.any fun q=>Occurs i q.p
def usedS(i:Fin 8)(s:Zb):Bool:=usedL i s.eqs || usedL i s.neqs
theorem Zin{i:Fin 8}{l:List Za}(h:∀ k (hk:k<l.length),Occurs i l[k].p=false):usedL i l=false:=by
 unfold usedL
 rw[List.any_eq_false]
 intro q hq
 obtain⟨k,hk,rfl⟩:=List.mem_iff_getElem.1 hq
 rw[h k hk]; decide
theorem Zhn{i:Fin 8}{l:List Za}{k:Nat}(hk:k<l.length)(h:Occurs i l[k].p=true):usedL i l=true:=by
 unfold usedL
 rw[List.any_eq_true]
 exact⟨_,List.getElem_mem hk,h⟩
theorem ZnK{s:Zb}(h:Good s)(i:Fin 8):(Zh1 s (i.val:Int)).Ret (usedS i s):=by
 have he:=h.eqs.len
 have hn:=h.neqs.len
 show (Comp.next _ _).wp _
 refine Comp.Zh s.eqs.length (fun k st=>st=(k:Int)∧∀ j (hj:j<s.eqs.length),j<k→Occurs i s.eqs[j].p=false) (fun k st hk hs=>?_) (fun st hs=>?_) ⟨rfl,fun j _ hj=>by omega⟩
 ·obtain⟨rfl,hi⟩:=hs
  have hp:=(h.eqs.pol _ (List.getElem_mem hk)).1
  rw[Comp.Ze,if_pos (by omega)]
  refine⟨s.eqs[k],idxN hk,_,Zct hp.len,by omega,?_⟩
  rw[Comp.Ze]
  split
  ·rename_i hu
   show true=usedS i s
   unfold usedS
   rw[Zhn hk ((Zgi _ i).1 hu)]; rfl
  ·rename_i hu
   refine⟨wrapN (by omega),fun j hj hjk=>?_⟩
   by_cases e:j=k
   ·subst e
    exact Bool.eq_false_iff.2 fun ho=>hu ((Zgi _ i).2 ho)
   ·exact hi j hj (by omega)
 ·obtain⟨rfl,hi⟩:=hs
  have e1:=Zin (i:=i) fun j hj=>hi j hj hj
  rw[Comp.Ze,if_neg (by omega)]
  show (Zdn s (i.val:Int)).wp _
  show (Comp.next _ _).wp _
  refine Comp.Zh s.neqs.length (fun k st=>st=(k:Int)∧∀ j (hj:j<s.neqs.length),j<k→Occurs i s.neqs[j].p=false) (fun k st hk hs=>?_) (fun st hs=>?_) ⟨rfl,fun j _ hj=>by omega⟩
  ·obtain⟨rfl,hi⟩:=hs
   have hp:=(h.neqs.pol _ (List.getElem_mem hk)).1
   rw[Comp.Ze,if_pos (by omega)]
   refine⟨s.neqs[k],idxN hk,_,Zct hp.len,by omega,?_⟩
   rw[Comp.Ze]
   split
   ·rename_i hu
    show true=usedS i s
    unfold usedS
    rw[Zhn hk ((Zgi _ i).1 hu),Bool.or_true]
   ·rename_i hu
    refine⟨wrapN (by omega),fun j hj hjk=>?_⟩
    by_cases e:j=k
    ·subst e
     exact Bool.eq_false_iff.2 fun ho=>hu ((Zgi _ i).2 ho)
    ·exact hi j hj (by omega)
  ·obtain⟨rfl,hi⟩:=hs
   rw[Comp.Ze,if_neg (by omega)]
   show false=usedS i s
   unfold usedS
   rw[e1,Zin fun j hj=>hi j hj hj]; rfl
theorem ZlT{a b:List Za}(ha:a.length≤100)(hb:b.length≤100):(ZS [a,b]).Ret (a++b):=by
 show (Comp.next _ _).wp _
 refine Comp.Zh 2 (fun k st=>st=((if k=0 then 0 else if k=1 then (a.length:Int) else (a.length:Int)+(b.length:Int)),(k:Int))) (fun k st hk hs=>?_) (fun st hs=>?_) rfl
 ·subst hs
  rcases (show k=0∨k=1 by omega) with rfl|rfl
  ·refine⟨a,⟨by omega,rfl⟩,?_⟩
   have hw:IntKind.i64.wrap (0+(a.length:Int))=(a.length:Int):=by rw[wrap64 (by omega)]; omega
   simp only[if_pos]
   rw[hw,Comp.Ze,if_neg (by omega)]
   rfl
  ·refine⟨b,⟨by omega,rfl⟩,?_⟩
   have hw:IntKind.i64.wrap ((a.length:Int)+(b.length:Int))=(a.length:Int)+(b.length:Int):=by rw[wrap64 (by omega)]
   simp only[show ¬ (1=0) by decide,if_false,if_true]
   rw[hw,Comp.Ze,if_neg (by omega)]
   rfl
 ·subst hs
  show (ZE [a,b] ((a.length:Int)+(b.length:Int))).wp _
  refine⟨[],⟨⟨by omega,by omega⟩,rfl⟩,?_⟩
  show (Comp.next _ _).wp _
  refine Comp.Zh 2 (fun k st=>st=((if k=0 then [] else if k=1 then a else a++b),(k:Int))) (fun k st hk hs=>?_) (fun st hs=>?_) rfl
  ·subst hs
   rcases (show k=0∨k=1 by omega) with rfl|rfl
   ·exact⟨a,⟨by omega,rfl⟩,by simp[small]; omega,by simp; rfl⟩
   ·exact⟨b,⟨by omega,rfl⟩,by simp[small]; omega,rfl⟩
  ·subst hs
   rfl
theorem Zmt{s:Zb}(h:Good s){e:Zd}(i:Fin 8)(hi:e.at'=(i.val:Int)):(Zax s e).Ret (!usedS i s):=by
 have he:=h.eqs.len
 have hn:=h.neqs.len
 have hu:usedS i s=usedL i (s.eqs++s.neqs):=by unfold usedS usedL; rw[List.any_append]
 have hlen:(s.eqs++s.neqs).length≤24:=by rw[List.length_append]; omega
 refine⟨_,ZlT (by omega) (by omega),?_⟩
 rw[hu]
 have hp:∀ q ∈ s.eqs++s.neqs,PolOk q.p:=fun q hq=>by
  rcases List.mem_append.1 hq with hq|hq
  ·exact (h.eqs.pol q hq).1
  ·exact (h.neqs.pol q hq).1
 generalize s.eqs++s.neqs=l at *
 show (Comp.next _ _).wp _
 refine Comp.Zh l.length (fun k st=>st=(k:Int)∧∀ j (hj:j<l.length),j<k→Occurs i l[j].p=false) (fun k st hk hs=>?_) (fun st hs=>?_) ⟨rfl,fun j _ hj=>by omega⟩
 ·obtain⟨rfl,hi'⟩:=hs
  show (if (k:Int)<(l.length:Int) then _ else _:Comp _).wp _
  rw[Comp.Ze,if_pos (by omega)]
  refine⟨l[k],idxN hk,_,Zh2 (hp _ (List.getElem_mem hk)).len,by omega,?_⟩
  rw[hi,Comp.Ze]
  split
  ·rename_i hu'
   show false = !usedL i l
   rw[Zhn hk ((ZjM _ i).1 hu')]; rfl
  ·rename_i hu'
   refine⟨wrapN (by omega),fun j hj hjk=>?_⟩
   by_cases ej:j=k
   ·subst ej
    exact Bool.eq_false_iff.2 fun ho=>hu' ((ZjM _ i).2 ho)
   ·exact hi' j hj (by omega)
 ·obtain⟨rfl,hi'⟩:=hs
  show (if ((l.length:Nat):Int)<(l.length:Int) then _ else _:Comp _).wp _
  rw[Comp.Ze,if_neg (by omega)]
  show true = !usedL i l
  rw[Zin fun j hj=>hi' j hj hj]; rfl
end Go.EL

namespace Go.EL
open Go Go.RowKit
def isV(s:Zb)(i:Int):Bool:=decide (0≤i∧i<(s.vars.length:Int))
def usedAt(s:Zb)(i:Int):Bool:=usedS ⟨i.toNat % 8,Nat.mod_lt _ (by decide)⟩ s
def hasB(s:Zb)(id:Int):Bool:=decide (0≤findI s.eqs id) || decide (0≤findI s.neqs id)
def addC(s:Zb)(e:Zd):Int:=
 if e.id<0∨999999<e.id∨(0<e.id∧hasB s e.id=true) then 332
 else if (e.neq=false∧12≤s.eqs.length)∨(e.neq=true∧12≤s.neqs.length)∨(e.id=0∧1000000≤s.next) then 2
 else if fitB e.p (s.vars.length:Int)=true then 0 else 320
def idC(s:Zb)(e:Zd):Int:=
 if hasB s e.id=false then 332
 else if e.kind=7∧fitB e.p (s.vars.length:Int)=false then 320
 else if e.kind=8∧((0≤findI s.eqs e.id∧12≤s.neqs.length)∨(¬ 0≤findI s.eqs e.id∧12≤s.eqs.length)) then 2 else 0
def checkF(s:Zb)(e:Zd):Int:=
 if e.kind=1 then (if 4≤s.vars.length then 2 else if ¬ (0≤e.at'∧e.at'≤(s.vars.length:Int)) then 330 else if nameB e.name=true∧idxI s.vars e.name<0 then 0 else 331)
 else if e.kind=2 then (if isV s e.at'=true then (if usedAt s e.at'=true then 333 else 0) else 330)
 else if e.kind=3 then (if isV s e.at'=true then (if nameB e.name=true∧(idxI s.vars e.name<0∨idxI s.vars e.name=e.at') then 0 else 331) else 330)
 else if e.kind=4 then (if isV s e.at'=true∧isV s e.to'=true then 0 else 330)
 else if e.kind=5 then addC s e
 else if e.kind=6∨e.kind=7∨e.kind=8 then idC s e else 1
theorem ZiH(s:Zb)(i:Int):(Zeq s i).Ret (isV s i):=by
 unfold Zeq isV
 by_cases h:0≤i
 ·rw[if_pos h]
  exact decide_eq_decide.2 ⟨fun k=>⟨h,k⟩,fun k=>k.2⟩
 ·rw[if_neg h]
  exact (decide_eq_false fun k=>h k.1).symm
theorem ZiG(s:Zb)(i:Int):(ZX i s).Ret (isV s i):=by
 unfold ZX isV
 by_cases h:0≤i
 ·rw[if_pos h]
  exact decide_eq_decide.2 ⟨fun k=>⟨h,k⟩,fun k=>k.2⟩
 ·rw[if_neg h]
  exact (decide_eq_false fun k=>h k.1).symm
theorem Ze7{s:Zb}{i:Int}(hv:s.vars.length≤4)(h:isV s i=true):∃ j:Fin 8,i=(j.val:Int)∧usedAt s i=usedS j s:=by
 have:=of_decide_eq_true h
 refine⟨⟨i.toNat,by omega⟩,by simp; omega,?_⟩
 unfold usedAt
 congr 1
 exact Fin.ext (Nat.mod_eq_of_lt (by omega))
theorem Zlz{s:Zb}(h:Good s)(id:Int):(Zhr s id).Ret (hasB s id):=by
 have he:=h.eqs.len
 have hn:=h.neqs.len
 refine⟨_,ZaJ (by omega) id,?_⟩
 rw[Comp.Ze]
 unfold hasB
 split
 ·rename_i h1
  show true=_
  rw[decide_eq_true h1]; rfl
 ·rename_i h1
  refine⟨_,ZaJ (by omega) id,?_⟩
  show _=_
  rw[decide_eq_false h1]; rfl
theorem Zkr{s:Zb}(h:Good s){e:Zd}(hp:PolOk e.p):(Zcz s e).Ret (addC s e):=by
 have hk1:∀ {r:Int},r=(if fitB e.p (s.vars.length:Int)=true then 0 else 320)→(ZJ s e).Ret r:=by
  intro r hr
  subst hr
  refine⟨_,ZgI hp (by omega),?_⟩
  rw[Comp.Ze]
  cases fitB e.p (s.vars.length:Int) <;> rfl
 have hk2:∀ {r:Int},r=(if (e.neq=false∧12≤s.eqs.length)∨(e.neq=true∧12≤s.neqs.length)∨(e.id=0∧1000000≤s.next) then 2 else if fitB e.p (s.vars.length:Int)=true then 0 else 320)→(ZaP s e).Ret r:=by
  intro r hr
  have hnext:¬ ((e.neq=false∧12≤s.eqs.length)∨(e.neq=true∧12≤s.neqs.length))→(if e.id=0 then (if 1000000≤s.next then (Comp.ret 2) else (ZJ s e)) else (ZJ s e):Comp Int).wp (fun a=>a=r):=by
   intro hno
   rw[Comp.Ze]
   split
   ·rename_i h0
    rw[Comp.Ze]
    split
    ·rename_i h1
     rw[if_pos (.inr (.inr ⟨h0,h1⟩))] at hr
     exact hr.symm
    ·rename_i h1
     exact hk1 (by rw[hr,if_neg (fun hh=>by rcases hh with hh|hh|hh; exact hno (.inl hh); exact hno (.inr hh); exact h1 hh.2)])
   ·rename_i h0
    exact hk1 (by rw[hr,if_neg (fun hh=>by rcases hh with hh|hh|hh; exact hno (.inl hh); exact hno (.inr hh); exact h0 hh.1)])
  unfold ZaP
  cases hn:e.neq with
  | true=>
   show (if true=true then _ else _:Comp Int).wp _
   rw[Comp.Ze,if_pos rfl,Comp.Ze,if_pos rfl,Comp.Ze]
   split
   ·rename_i h1
    rw[if_pos (.inr (.inl ⟨hn,by omega⟩))] at hr
    exact hr.symm
   ·rename_i h1
    exact hnext (fun hh=>by rcases hh with hh|hh; rw[hn] at hh; exact absurd hh.1 (by decide); omega)
  | false=>
   show (if false=true then _ else _:Comp Int).wp _
   rw[Comp.Ze,if_neg (by decide),Comp.Ze]
   split
   ·rename_i h1
    rw[if_pos (.inl ⟨hn,by omega⟩)] at hr
    exact hr.symm
   ·rename_i h1
    rw[Comp.Ze,if_neg (by decide)]
    exact hnext (fun hh=>by rcases hh with hh|hh; omega; rw[hn] at hh; exact absurd hh.1 (by decide))
 unfold Zcz addC
 show (if e.id<0 then _ else _:Comp Int).wp _
 rw[Comp.Ze]
 split
 ·rename_i h1
  rw[if_pos (.inl h1)]; rfl
 rename_i h1
 rw[Comp.Ze]
 split
 ·rename_i h2
  rw[if_pos (.inr (.inl h2))]; rfl
 rename_i h2
 rw[Comp.Ze]
 split
 ·rename_i h3
  refine⟨_,Zlz h e.id,?_⟩
  rw[Comp.Ze]
  split
  ·rename_i h4
   rw[if_pos (.inr (.inr ⟨h3,h4⟩))]; rfl
  ·rename_i h4
   rw[if_neg (fun hh=>by rcases hh with hh|hh|hh; exact h1 hh; exact h2 hh; exact h4 hh.2)]
   exact hk2 rfl
 ·rename_i h3
  rw[if_neg (fun hh=>by rcases hh with hh|hh|hh; exact h1 hh; exact h2 hh; exact h3 hh.1)]
  exact hk2 rfl
theorem Zfq{s:Zb}(h:Good s){e:Zd}(hp:PolOk e.p):(Zbs s e).Ret (idC s e):=by
 have he:=h.eqs.len
 have hn:=h.neqs.len
 have hk1:∀ {r:Int},r=(if e.kind=8∧((0≤findI s.eqs e.id∧12≤s.neqs.length)∨(¬ 0≤findI s.eqs e.id∧12≤s.eqs.length)) then 2 else 0)→(ZbP s e).Ret r:=by
  intro r hr
  refine⟨_,ZaJ (by omega) e.id,?_⟩
  rw[Comp.Ze]
  split
  ·rename_i h8
   rw[Comp.Ze]
   split
   ·rename_i hf
    rw[Comp.Ze]
    split
    ·rename_i hb
     rw[if_pos ⟨h8,.inl ⟨hf,by omega⟩⟩] at hr
     exact hr.symm
    ·rename_i hb
     rw[if_neg (fun hh=>by rcases hh.2 with hh|hh; omega; exact hh.1 hf)] at hr
     exact hr.symm
   ·rename_i hf
    split
    ·rename_i hb
     rw[if_pos ⟨h8,.inr ⟨hf,by omega⟩⟩] at hr
     exact hr.symm
    ·rename_i hb
     rw[if_neg (fun hh=>by rcases hh.2 with hh|hh; exact hf hh.1; omega)] at hr
     exact hr.symm
  ·rename_i h8
   rw[if_neg (fun hh=>h8 hh.1)] at hr
   exact hr.symm
 unfold Zbs idC
 refine⟨_,Zlz h e.id,?_⟩
 cases hb:hasB s e.id with
 | false=>
  rw[Comp.Ze,if_pos (by decide),if_pos rfl]
  rfl
 | true=>
  rw[Comp.Ze,if_neg (by decide),if_neg (show ¬ (true=false) by decide),Comp.Ze]
  split
  ·rename_i h7
   refine⟨_,ZgI hp (by omega),?_⟩
   cases hf:fitB e.p (s.vars.length:Int) with
   | false=>
    rw[Comp.Ze,if_pos (by decide),if_pos ⟨h7,rfl⟩]
    rfl
   | true=>
    rw[Comp.Ze,if_neg (by decide),if_neg (fun hh=>absurd hh.2 (by decide))]
    exact hk1 rfl
  ·rename_i h7
   rw[if_neg (fun hh=>h7 hh.1)]
   exact hk1 rfl
theorem ZaN{s:Zb}(h:Good s){e:Zd}(hp:PolOk e.p):(ZeR s e).Ret (checkF s e):=by
 have hv:=h.vars
 unfold ZeR checkF
 show (if e.kind=1 then _ else _:Comp Int).wp _
 by_cases hk1:e.kind=1
 ·rw[Comp.Ze,if_pos hk1,if_pos hk1,Comp.Ze]
  split
  ·rename_i h1
   rw[if_pos (show 4≤s.vars.length by omega)]; rfl
  rename_i h1
  rw[if_neg (show ¬ 4≤s.vars.length by omega),Comp.Ze]
  split
  ·rename_i h2
   rw[if_pos (show ¬ (0≤e.at'∧e.at'≤(s.vars.length:Int)) by omega)]; rfl
  rename_i h2
  rw[Comp.Ze]
  split
  ·rename_i h3
   rw[if_pos (show ¬ (0≤e.at'∧e.at'≤(s.vars.length:Int)) by omega)]; rfl
  rename_i h3
  rw[if_neg (show ¬ ¬ (0≤e.at'∧e.at'≤(s.vars.length:Int)) by omega)]
  refine⟨_,ZhY _,?_⟩
  cases hb:nameB e.name with
  | false=>rw[if_neg (fun hh=>absurd hh.1 (by decide))]; rfl
  | true=>
   refine⟨_,Zjz (by omega) _,?_⟩
   rw[Comp.Ze]
   split
   ·rename_i h4
    rw[if_neg (fun hh=>by omega)]; rfl
   ·rename_i h4
    rw[if_pos ⟨rfl,by omega⟩]; rfl
 rw[Comp.Ze,if_neg hk1,if_neg hk1]
 by_cases hk2:e.kind=2
 ·rw[Comp.Ze,if_pos hk2,if_pos hk2]
  refine⟨_,ZiH s e.at',?_⟩
  cases hb:isV s e.at' with
  | false=>rw[Comp.Ze,if_pos (by decide),if_neg (by decide)]; rfl
  | true=>
   obtain⟨j,hj,hu⟩:=Ze7 hv hb
   rw[Comp.Ze,if_neg (by decide),if_pos rfl,hu]
   refine⟨usedS j s,hj ▸ ZnK h j,?_⟩
   rw[Comp.Ze]
   split <;> rfl
 rw[Comp.Ze,if_neg hk2,if_neg hk2]
 by_cases hk3:e.kind=3
 ·rw[Comp.Ze,if_pos hk3,if_pos hk3]
  refine⟨_,ZiH s e.at',?_⟩
  cases hb:isV s e.at' with
  | false=>rw[Comp.Ze,if_pos (by decide),if_neg (by decide)]; rfl
  | true=>
   rw[Comp.Ze,if_neg (by decide),if_pos rfl]
   refine⟨_,Zjz (by omega) _,_,ZhY _,?_⟩
   cases hb2:nameB e.name with
   | false=>rw[if_neg (show ¬ (false=true∧(idxI s.vars e.name<0∨idxI s.vars e.name=e.at')) from fun hh=>absurd hh.1 (by decide))]; rfl
   | true=>
    show (if 0≤idxI s.vars e.name then _ else _:Comp Int).wp _
    rw[Comp.Ze]
    split
    ·rename_i h4
     rw[Comp.Ze]
     split <;> rename_i h5
     ·rw[if_neg (fun hh=>by rcases hh.2 with hh|hh; omega; exact h5 hh)]; rfl
     ·rw[if_pos ⟨rfl,.inr (Classical.not_not.1 h5)⟩]; rfl
    ·rename_i h4
     rw[if_pos ⟨rfl,.inl (by omega)⟩]; rfl
 rw[Comp.Ze,if_neg hk3,if_neg hk3]
 by_cases hk4:e.kind=4
 ·rw[Comp.Ze,if_pos hk4,if_pos hk4]
  refine⟨_,ZiH s e.at',?_⟩
  cases hb:isV s e.at' with
  | false=>rw[if_neg (fun hh=>absurd hh.1 (by decide))]; rfl
  | true=>
   refine⟨_,ZiH s e.to',?_⟩
   cases hb2:isV s e.to' with
   | false=>rw[Comp.Ze,if_pos (by decide),if_neg (fun hh=>absurd hh.2 (by decide))]; rfl
   | true=>rw[Comp.Ze,if_neg (by decide),if_pos ⟨rfl,rfl⟩]; rfl
 rw[Comp.Ze,if_neg hk4,if_neg hk4]
 by_cases hk5:e.kind=5
 ·rw[Comp.Ze,if_pos hk5,if_pos hk5]
  exact⟨_,Zkr h hp,rfl⟩
 rw[Comp.Ze,if_neg hk5,if_neg hk5]
 by_cases hk6:e.kind=6
 ·rw[Comp.Ze,if_pos hk6,Comp.Ze,if_pos hk6,if_pos (.inl hk6)]
  exact⟨_,Zfq h hp,rfl⟩
 rw[Comp.Ze,if_neg hk6]
 by_cases hk7:e.kind=7
 ·rw[Comp.Ze,if_pos hk7,Comp.Ze,if_pos hk7,if_pos (.inr (.inl hk7))]
  exact⟨_,Zfq h hp,rfl⟩
 rw[Comp.Ze,if_neg hk7]
 by_cases hk8:e.kind=8
 ·rw[Comp.Ze,if_pos hk8,if_pos (.inr (.inr hk8))]
  exact⟨_,Zfq h hp,rfl⟩
 ·rw[Comp.Ze,if_neg hk8,if_neg (fun hh=>by rcases hh with hh|hh|hh; exact hk6 hh; exact hk7 hh; exact hk8 hh)]
  rfl
end Go.EL

namespace Go.EL
open Go Go.RowKit
def zeroS:Zb:=⟨[],[],[],0⟩
def addV(s:Zb)(e:Zd):Zb:=
 ⟨s.vars.take e.at'.toNat++[e.name]++s.vars.drop e.at'.toNat,movedL (rotF s.vars.length e.at'.toNat) s.eqs,movedL (rotF s.vars.length e.at'.toNat) s.neqs,s.next⟩
theorem first3{a b c:Unit→Comp Int}{x y z:Int}(ha:(a ()).Ret x)(hb:x=0→(b ()).Ret y)(hc:x=0→y=0→(c ()).Ret z):(Zy [a,b,c]).Ret (if x=0 then (if y=0 then z else y) else x):=by
 by_cases hx:x=0
 ·by_cases hy:y=0
  ·rw[if_pos hx,if_pos hy]
   by_cases hz:z=0
   ·subst hx hy hz
    refine Zh9 (by simp) fun j hj=>?_
    match j,hj with
    | 0,_=>exact ha
    | 1,_=>exact hb rfl
    | 2,_=>exact hc rfl rfl
   ·subst hx hy
    refine Zcj (k:=2) (by simp) (by simp) (fun j hj hj2=>?_) (hc rfl rfl) hz
    match j,hj2 with
    | 0,_=>exact ha
    | 1,_=>exact hb rfl
  ·rw[if_pos hx,if_neg hy]
   subst hx
   refine Zcj (k:=1) (by simp) (by simp) (fun j hj hj2=>?_) (hb rfl) hy
   match j,hj2 with
   | 0,_=>exact ha
 ·rw[if_neg hx]
  exact Zcj (k:=0) (by simp) (by simp) (fun j hj hj2=>by omega) ha hx
theorem first2{a b:Unit→Comp Int}{x y:Int}(ha:(a ()).Ret x)(hb:x=0→(b ()).Ret y):(Zy [a,b]).Ret (if x=0 then y else x):=by
 by_cases hx:x=0
 ·rw[if_pos hx]
  subst hx
  by_cases hy:y=0
  ·subst hy
   refine Zh9 (by simp) fun j hj=>?_
   match j,hj with
   | 0,_=>exact ha
   | 1,_=>exact hb rfl
  ·refine Zcj (k:=1) (by simp) (by simp) (fun j hj hj2=>?_) (hb rfl) hy
   match j,hj2 with
   | 0,_=>exact ha
 ·rw[if_neg hx]
  exact Zcj (k:=0) (by simp) (by simp) (fun j hj hj2=>by omega) ha hx
theorem Zkp{s:Zb}(h:Good s){e:Zd}(hk:e.kind=1):(Zy [fun _=>Zk (fun _=>ZaG (s.vars.length:Int)) 2,fun _=>Zk (fun _=>Zai e (s.vars.length:Int)) 330,fun _=>Zk (fun _=>ZaH e s) 331]).Ret (checkF s e):=by
 have hv:=h.vars
 have h1:(ZaG (s.vars.length:Int)).Ret (decide ((s.vars.length:Int)<4)):=rfl
 have h2:(Zai e (s.vars.length:Int)).Ret (decide (0≤e.at'∧e.at'≤(s.vars.length:Int))):=by
  unfold Zai
  by_cases h0:0≤e.at'
  ·rw[if_pos h0]
   exact decide_eq_decide.2 ⟨fun k=>⟨h0,k⟩,fun k=>k.2⟩
  ·rw[if_neg h0]
   exact (decide_eq_false fun k=>h0 k.1).symm
 have h3:(ZaH e s).Ret (decide (nameB e.name=true∧idxI s.vars e.name<0)):=by
  refine⟨_,ZeW _,?_⟩
  cases hb:nameB e.name with
  | false=>exact (decide_eq_false fun k=>absurd k.1 (by decide)).symm
  | true=>
   refine⟨_,Zj6 (by omega) _,?_⟩
   show (!decide (0≤idxI s.vars e.name))=_
   by_cases hi:0≤idxI s.vars e.name
   ·rw[decide_eq_true hi,decide_eq_false (fun k=>by omega)]; rfl
   ·rw[decide_eq_false hi,decide_eq_true ⟨rfl,by omega⟩]; rfl
 have e1:checkF s e=(if (if decide ((s.vars.length:Int)<4)=true then (0:Int) else 2)=0 then (if (if decide (0≤e.at'∧e.at'≤(s.vars.length:Int))=true then (0:Int) else 330)=0 then (if decide (nameB e.name=true∧idxI s.vars e.name<0)=true then 0 else 331) else (if decide (0≤e.at'∧e.at'≤(s.vars.length:Int))=true then (0:Int) else 330)) else (if decide ((s.vars.length:Int)<4)=true then (0:Int) else 2)):=by
  unfold checkF
  rw[if_pos hk]
  by_cases c1:4≤s.vars.length
  ·rw[if_pos c1,decide_eq_false (show ¬ (s.vars.length:Int)<4 by omega)]; rfl
  ·rw[if_neg c1,decide_eq_true (show (s.vars.length:Int)<4 by omega)]
   by_cases c2:0≤e.at'∧e.at'≤(s.vars.length:Int)
   ·rw[if_neg (show ¬ ¬ _ from fun k=>k c2),decide_eq_true c2]
    by_cases c3:nameB e.name=true∧idxI s.vars e.name<0
    ·rw[if_pos c3,decide_eq_true c3]; rfl
    ·rw[if_neg c3,decide_eq_false c3]; rfl
   ·rw[if_pos c2,decide_eq_false c2]; rfl
 rw[e1]
 exact first3 (ZM h1 2) (fun _=>ZM h2 330) (fun _ _=>ZM h3 331)
theorem check1{s:Zb}{e:Zd}(hk:e.kind=1)(hc:checkF s e=0):s.vars.length<4∧0≤e.at'∧e.at'≤(s.vars.length:Int)∧nameB e.name=true∧idxI s.vars e.name<0:=by
 unfold checkF at hc
 rw[if_pos hk] at hc
 by_cases c1:4≤s.vars.length
 ·rw[if_pos c1] at hc; exact absurd hc (by decide)
 ·rw[if_neg c1] at hc
  by_cases c2:0≤e.at'∧e.at'≤(s.vars.length:Int)
  ·rw[if_neg (show ¬ ¬ _ from fun k=>k c2)] at hc
   by_cases c3:nameB e.name=true∧idxI s.vars e.name<0
   ·exact⟨by omega,c2.1,c2.2,c3.1,c3.2⟩
   ·rw[if_neg c3] at hc; exact absurd hc (by decide)
  ·rw[if_pos c2] at hc; exact absurd hc (by decide)
def shiftM(a n:Nat):M:=fun i=>if a≤i.val∧i.val<n then (i.val:Int)+1 else (i.val:Int)
theorem Zm2{a n:Nat}(h:a≤n):setF (shiftM a n) n (a:Int)=rotF n a:=by
 funext i
 simp only[setF,shiftM,rotF]
 by_cases h1:i.val=n
 ·rw[if_pos h1,if_pos h1]
 ·rw[if_neg h1,if_neg h1]
  by_cases h2:a≤i.val∧i.val<n
  ·rw[if_pos h2,if_neg (by omega),if_pos (by omega)]
  ·rw[if_neg h2,if_neg (by omega),if_neg (by omega)]
theorem Zlc{s:Zb}(hn:s.vars.length<4){a:Nat}(h:a≤s.vars.length):(ZfH s ((a:Int),idM)).Ret (shiftM a s.vars.length):=by
 refine Comp.Zh (s.vars.length-a) (fun k st=>st=(((a+k:Nat):Int),shiftM a (a+k))) (fun k st hk hs=>?_) (fun st hs=>?_) ?_
 ·subst hs
  show (if ((a+k:Nat):Int)<(s.vars.length:Int) then _ else _:Comp _).wp _
  rw[Comp.Ze,if_pos (by omega)]
  refine⟨by omega,?_⟩
  show _=_
  rw[wrapN (by omega)]
  congr 1
  funext i
  simp only[setF,shiftM,Int.toNat_natCast]
  by_cases h1:i.val=a+k
  ·rw[if_pos h1,if_pos (by omega)]; omega
  ·rw[if_neg h1]
   by_cases h2:a≤i.val∧i.val<a+k
   ·rw[if_pos h2,if_pos (by omega)]
   ·rw[if_neg h2,if_neg (by omega)]
 ·subst hs
  show (if ((a+(s.vars.length-a):Nat):Int)<(s.vars.length:Int) then _ else _:Comp _).wp _
  rw[Comp.Ze,if_neg (by omega)]
  show _=_
  rw[show a+(s.vars.length-a)=s.vars.length by omega]
 ·congr 1
  funext i
  simp only[shiftM,idM]
  rw[if_neg (by omega)]
theorem Zl3{s:Zb}(h:Good s){e:Zd}(hk:e.kind=1):(Zfs s e).Ret (if checkF s e=0 then (addV s e,0) else (zeroS,checkF s e)):=by
 refine⟨_,rfl,_,rfl,_,rfl,_,Zkp h hk,?_⟩
 by_cases hc:checkF s e=0
 ·obtain⟨h1,h2,h3,h4,h5⟩:=check1 hk hc
  rw[if_pos hc,Comp.Ze,if_neg (fun hh=>hh hc)]
  obtain⟨a,ha⟩:=Int.eq_ofNat_of_zero_le h2
  have ha2:a≤s.vars.length:=by omega
  refine⟨_,Zey,?_⟩
  show (Comp.next _ _).wp _
  rw[ha]
  refine (Zlc h1 ha2).then ?_
  have hperm:setF (shiftM a s.vars.length) ((s.vars.length:Int).toNat) e.at'=rotF s.vars.length a:=by rw[ha,Int.toNat_natCast]; exact Zm2 ha2
  refine⟨⟨by omega,by omega⟩,permS (rotF s.vars.length a) s,by rw[hperm]; exact Zfy (ZaY (by omega) (by omega)) h,s.vars,ZeJ (l:=s.vars) (by omega),_,⟨⟨⟨h2,h3⟩,rfl,by omega⟩,rfl⟩,?_⟩
  show _=_
  unfold addV
  rw[ha]
  rfl
 ·rw[if_neg hc,Comp.Ze,if_pos hc]
  rfl
theorem ZlL{s:Zb}(h:Good s){e:Zd}(hp:PolOk e.p)(hk:e.kind=1):(Zae s e).Ret (if checkF s e=0 then (addV s e,0) else (zeroS,checkF s e)):=by
 refine⟨_,ZaN h hp,?_⟩
 by_cases hc:checkF s e=0
 ·obtain⟨h1,h2,h3,h4,h5⟩:=check1 hk hc
  rw[if_pos hc,Comp.Ze,if_neg (fun hh=>hh hc)]
  obtain⟨a,ha⟩:=Int.eq_ofNat_of_zero_le h2
  have ha2:a≤s.vars.length:=by omega
  refine⟨by simp[small]; omega,?_⟩
  rw[Comp.Ze,if_pos hk,ha]
  have he:=h.eqs.len
  have hn:=h.neqs.len
  have hπ:=ZaY (a:=s.vars.length) (b:=a) (by omega) (by omega)
  have hr:=Zfz (a:=s.vars.length) (b:=a) (by omega) (by omega)
  refine⟨⟨by omega,by omega,by omega⟩,by simp[small]; omega,by simp[small]; omega,⟨by omega,by omega,by omega⟩,by simp[small]; omega,_,hr,_,Zck hπ (by omega) (fun q hq=>(h.eqs.pol q hq).1),_,hr,_,Zck hπ (by omega) (fun q hq=>(h.neqs.pol q hq).1),?_⟩
  show _=_
  unfold addV
  rw[ha]
  simp
 ·rw[if_neg hc,Comp.Ze,if_pos hc]
  rfl
end Go.EL

namespace Go.EL
open Go Go.RowKit
def renV(s:Zb)(e:Zd):Zb:=⟨s.vars.set e.at'.toNat e.name,s.eqs,s.neqs,s.next⟩
theorem check3{s:Zb}{e:Zd}(hk:e.kind=3)(hc:checkF s e=0):isV s e.at'=true∧nameB e.name=true∧(idxI s.vars e.name<0∨idxI s.vars e.name=e.at'):=by
 unfold checkF at hc
 rw[if_neg (by omega),if_neg (by omega),if_pos hk] at hc
 by_cases c1:isV s e.at'=true
 ·rw[if_pos c1] at hc
  by_cases c2:nameB e.name=true∧(idxI s.vars e.name<0∨idxI s.vars e.name=e.at')
  ·exact⟨c1,c2⟩
  ·rw[if_neg c2] at hc; exact absurd hc (by decide)
 ·rw[if_neg c1] at hc; exact absurd hc (by decide)
theorem Zmh{s:Zb}(h:Good s){e:Zd}(hk:e.kind=3):(Zft s e).Ret (if checkF s e=0 then (renV s e,0) else (zeroS,checkF s e)):=by
 have hv:=h.vars
 have h2:(ZaI s e).Ret (decide (nameB e.name=true∧(idxI s.vars e.name<0∨idxI s.vars e.name=e.at'))):=by
  refine⟨_,Zjl (by omega) _,_,ZeW _,?_⟩
  cases hb:nameB e.name with
  | false=>exact (decide_eq_false fun k=>absurd k.1 (by decide)).symm
  | true=>
   show (if idxI s.vars e.name<0 then _ else _:Comp Bool).wp _
   rw[Comp.Ze]
   by_cases hi:idxI s.vars e.name<0
   ·rw[if_pos hi]
    exact (decide_eq_true ⟨rfl,.inl hi⟩).symm
   ·rw[if_neg hi]
    exact decide_eq_decide.2 ⟨fun k=>⟨rfl,.inr k⟩,fun k=>k.2.resolve_left hi⟩
 have hfirst:(Zy [fun _=>Zk (fun _=>ZX e.at' s) 330,fun _=>Zk (fun _=>ZaI s e) 331]).Ret (checkF s e):=by
  have e1:checkF s e=(if (if isV s e.at'=true then (0:Int) else 330)=0 then (if decide (nameB e.name=true∧(idxI s.vars e.name<0∨idxI s.vars e.name=e.at'))=true then (0:Int) else 331) else (if isV s e.at'=true then (0:Int) else 330)):=by
   unfold checkF
   rw[if_neg (by omega),if_neg (by omega),if_pos hk]
   by_cases c1:isV s e.at'=true
   ·rw[if_pos c1,if_pos c1]
    by_cases c2:nameB e.name=true∧(idxI s.vars e.name<0∨idxI s.vars e.name=e.at')
    ·rw[if_pos c2,decide_eq_true c2]; rfl
    ·rw[if_neg c2,decide_eq_false c2]; rfl
   ·rw[if_neg c1,if_neg c1]; rfl
  rw[e1]
  exact first2 (ZM (ZiG s e.at') 330) (fun _=>ZM h2 331)
 refine⟨_,rfl,_,rfl,_,rfl,_,hfirst,?_⟩
 by_cases hc:checkF s e=0
 ·obtain⟨h3,h4,h5⟩:=check3 hk hc
  have h6:=of_decide_eq_true h3
  rw[if_pos hc,Comp.Ze,if_neg (fun hh=>hh hc)]
  have hlt:e.at'.toNat<s.vars.length:=by omega
  exact⟨_,ZeJ (by omega),s.vars[e.at'.toNat],⟨h6.1,List.getElem?_eq_getElem hlt⟩,rfl⟩
 ·rw[if_neg hc,Comp.Ze,if_pos hc]
  rfl
theorem ZlN{s:Zb}(h:Good s){e:Zd}(hp:PolOk e.p)(hk:e.kind=3):(Zae s e).Ret (if checkF s e=0 then (renV s e,0) else (zeroS,checkF s e)):=by
 have hv:=h.vars
 refine⟨_,ZaN h hp,?_⟩
 by_cases hc:checkF s e=0
 ·obtain⟨h3,h4,h5⟩:=check3 hk hc
  have h6:=of_decide_eq_true h3
  have hlt:e.at'.toNat<s.vars.length:=by omega
  rw[if_pos hc,Comp.Ze,if_neg (fun hh=>hh hc)]
  refine⟨by simp[small]; omega,?_⟩
  rw[Comp.Ze,if_neg (by omega),Comp.Ze,if_neg (by omega),Comp.Ze,if_pos hk]
  exact⟨s.vars[e.at'.toNat],⟨h6.1,List.getElem?_eq_getElem hlt⟩,rfl⟩
 ·rw[if_neg hc,Comp.Ze,if_pos hc]
  rfl
def swpV(s:Zb)(e:Zd):Zb:=
 ⟨(s.vars.set e.at'.toNat (s.vars.getD e.to'.toNat ByteArray.empty)).set e.to'.toNat (s.vars.getD e.at'.toNat ByteArray.empty),movedL (swapF e.at'.toNat e.to'.toNat) s.eqs,movedL (swapF e.at'.toNat e.to'.toNat) s.neqs,s.next⟩
theorem check4{s:Zb}{e:Zd}(hk:e.kind=4)(hc:checkF s e=0):isV s e.at'=true∧isV s e.to'=true:=by
 unfold checkF at hc
 rw[if_neg (by omega),if_neg (by omega),if_neg (by omega),if_pos hk] at hc
 by_cases c1:isV s e.at'=true∧isV s e.to'=true
 ·exact c1
 ·rw[if_neg c1] at hc; exact absurd hc (by decide)
theorem ZnJ{s:Zb}(h:Good s){e:Zd}(hk:e.kind=4):(Zg0 s e).Ret (if checkF s e=0 then (swpV s e,0) else (zeroS,checkF s e)):=by
 have hv:=h.vars
 have hfirst:(Zy [fun _=>Zk (fun _=>ZX e.at' s) 330,fun _=>Zk (fun _=>ZX e.to' s) 330]).Ret (checkF s e):=by
  have e1:checkF s e=(if (if isV s e.at'=true then (0:Int) else 330)=0 then (if isV s e.to'=true then (0:Int) else 330) else (if isV s e.at'=true then (0:Int) else 330)):=by
   unfold checkF
   rw[if_neg (by omega),if_neg (by omega),if_neg (by omega),if_pos hk]
   cases isV s e.at' <;> cases isV s e.to' <;> rfl
  rw[e1]
  exact first2 (ZM (ZiG s e.at') 330) (fun _=>ZM (ZiG s e.to') 330)
 refine⟨_,rfl,_,rfl,_,rfl,_,rfl,_,hfirst,?_⟩
 by_cases hc:checkF s e=0
 ·obtain⟨h3,h4⟩:=check4 hk hc
  have h5:=of_decide_eq_true h3
  have h6:=of_decide_eq_true h4
  obtain⟨a,ha⟩:=Int.eq_ofNat_of_zero_le h5.1
  obtain⟨b,hb⟩:=Int.eq_ofNat_of_zero_le h6.1
  have ha2:a<s.vars.length:=by omega
  have hb2:b<s.vars.length:=by omega
  rw[if_pos hc,Comp.Ze,if_neg (fun hh=>hh hc),ha,hb]
  refine⟨_,Zey,⟨by omega,by omega⟩,⟨by omega,by omega⟩,permS (swapF a b) s,Zfy (swap_perm (by omega) (by omega)) h,s.vars,ZeJ (l:=s.vars) (by omega),s.vars[b],idxN hb2,s.vars[a],idxN ha2,s.vars[a],idxN ha2,?_⟩
  have hx:∃ x5,(s.vars.set (a:Int).toNat s.vars[b])[(b:Int).toNat]? = some x5:=⟨_,List.getElem?_eq_getElem (by simp; omega)⟩
  obtain⟨x5,hx5⟩:=hx
  refine⟨x5,⟨by omega,hx5⟩,?_⟩
  show _=_
  unfold swpV
  rw[ha,hb]
  simp only[Int.toNat_natCast,List.getD_eq_getElem?_getD,List.getElem?_eq_getElem ha2,List.getElem?_eq_getElem hb2,Option.getD_some]
  rfl
 ·rw[if_neg hc,Comp.Ze,if_pos hc]
  rfl
theorem ZlO{s:Zb}(h:Good s){e:Zd}(hp:PolOk e.p)(hk:e.kind=4):(Zae s e).Ret (if checkF s e=0 then (swpV s e,0) else (zeroS,checkF s e)):=by
 have hv:=h.vars
 refine⟨_,ZaN h hp,?_⟩
 by_cases hc:checkF s e=0
 ·obtain⟨h3,h4⟩:=check4 hk hc
  have h5:=of_decide_eq_true h3
  have h6:=of_decide_eq_true h4
  obtain⟨a,ha⟩:=Int.eq_ofNat_of_zero_le h5.1
  obtain⟨b,hb⟩:=Int.eq_ofNat_of_zero_le h6.1
  have ha2:a<s.vars.length:=by omega
  have hb2:b<s.vars.length:=by omega
  have he:=h.eqs.len
  have hn:=h.neqs.len
  have hπ:=swap_perm (a:=a) (b:=b) (by omega) (by omega)
  have hr:=Zfz (a:=0) (b:=0) (by omega) (by omega)
  rw[ZnH] at hr
  rw[if_pos hc,Comp.Ze,if_neg (fun hh=>hh hc)]
  refine⟨by simp[small]; omega,?_⟩
  rw[Comp.Ze,if_neg (by omega),Comp.Ze,if_neg (by omega),Comp.Ze,if_neg (by omega),Comp.Ze,if_pos hk,ha,hb]
  have hx:∃ x5,(s.vars.set (a:Int).toNat s.vars[b])[(b:Int).toNat]? = some x5:=⟨_,List.getElem?_eq_getElem (by simp; omega)⟩
  obtain⟨x5,hx5⟩:=hx
  refine⟨_,hr,⟨by omega,by omega⟩,⟨by omega,by omega⟩,s.vars[b],idxN hb2,s.vars[a],idxN ha2,s.vars[a],idxN ha2,x5,⟨by omega,hx5⟩,movedL (swapF a b) s.eqs,Zck hπ (by omega) (fun q hq=>(h.eqs.pol q hq).1),movedL (swapF a b) s.neqs,Zck hπ (by omega) (fun q hq=>(h.neqs.pol q hq).1),?_⟩
  show _=_
  unfold swpV
  rw[ha,hb]
  simp only[Int.toNat_natCast,List.getD_eq_getElem?_getD,List.getElem?_eq_getElem ha2,List.getElem?_eq_getElem hb2,Option.getD_some]
  rfl
 ·rw[if_neg hc,Comp.Ze,if_pos hc]
  rfl
end Go.EL

namespace Go.EL
open Go Go.RowKit
def dropV(s:Zb)(e:Zd):Zb:=
 ⟨s.vars.take e.at'.toNat++s.vars.drop (e.at'.toNat+1),movedL (rotF e.at'.toNat (s.vars.length-1)) s.eqs,movedL (rotF e.at'.toNat (s.vars.length-1)) s.neqs,s.next⟩
theorem check2{s:Zb}{e:Zd}(hk:e.kind=2)(hc:checkF s e=0):isV s e.at'=true∧usedAt s e.at'=false:=by
 unfold checkF at hc
 rw[if_neg (by omega),if_pos hk] at hc
 cases c1:isV s e.at' with
 | false=>rw[c1,if_neg (by decide)] at hc; exact absurd hc (by decide)
 | true=>
  rw[c1,if_pos rfl] at hc
  cases c2:usedAt s e.at' with
  | false=>exact⟨rfl,rfl⟩
  | true=>rw[c2,if_pos rfl] at hc; exact absurd hc (by decide)
def downM(a n k:Nat):M:=fun i=>if i.val=a then (n:Int)-1 else if a<i.val∧i.val<k then (i.val:Int)-1 else (i.val:Int)
theorem Znr{a n:Nat}(h:a<n):downM a n n=rotF a (n-1):=by
 funext i
 simp only[downM,rotF]
 by_cases h1:i.val=a
 ·rw[if_pos h1,if_pos h1]; omega
 ·rw[if_neg h1,if_neg h1]
  by_cases h2:a<i.val∧i.val<n
  ·rw[if_pos h2,if_pos (by omega)]
  ·rw[if_neg h2,if_neg (by omega),if_neg (by omega)]
theorem Zks{s:Zb}(hn:s.vars.length≤4){a:Nat}(h:a<s.vars.length):(ZeV s (((a+1:Nat):Int),downM a s.vars.length (a+1))).Ret (downM a s.vars.length s.vars.length):=by
 refine Comp.Zh (s.vars.length-(a+1)) (fun k st=>st=(((a+1+k:Nat):Int),downM a s.vars.length (a+1+k))) (fun k st hk hs=>?_) (fun st hs=>?_) rfl
 ·subst hs
  show (if ((a+1+k:Nat):Int)<(s.vars.length:Int) then _ else _:Comp _).wp _
  rw[Comp.Ze,if_pos (by omega)]
  refine⟨by omega,?_⟩
  show _=_
  rw[wrapN (by omega),wrap64 (by omega)]
  congr 1
  funext i
  simp only[setF,downM,Int.toNat_natCast]
  by_cases h1:i.val=a+1+k
  ·rw[if_pos h1,if_neg (by omega),if_pos (by omega)]; omega
  ·rw[if_neg h1]
   by_cases h2:i.val=a
   ·rw[if_pos h2,if_pos h2]
   ·rw[if_neg h2,if_neg h2]
    by_cases h3:a<i.val∧i.val<a+1+k
    ·rw[if_pos h3,if_pos (by omega)]
    ·rw[if_neg h3,if_neg (by omega)]
 ·subst hs
  show (if ((a+1+(s.vars.length-(a+1)):Nat):Int)<(s.vars.length:Int) then _ else _:Comp _).wp _
  rw[Comp.Ze,if_neg (by omega)]
  show _=_
  rw[show a+1+(s.vars.length-(a+1))=s.vars.length by omega]
theorem Zlg{s:Zb}(h:Good s){e:Zd}(hk:e.kind=2):(Zew s e).Ret (if checkF s e=0 then (dropV s e,0) else (zeroS,checkF s e)):=by
 have hv:=h.vars
 have hfirst:(Zy [fun _=>Zk (fun _=>ZX e.at' s) 330,fun _=>Zk (fun _=>Zax s e) 333]).Ret (checkF s e):=by
  have e1:checkF s e=(if (if isV s e.at'=true then (0:Int) else 330)=0 then (if (!usedAt s e.at')=true then (0:Int) else 333) else (if isV s e.at'=true then (0:Int) else 330)):=by
   unfold checkF
   rw[if_neg (by omega),if_pos hk]
   cases isV s e.at' <;> cases usedAt s e.at' <;> rfl
  rw[e1]
  refine first2 (ZM (ZiG s e.at') 330) (fun h0=>?_)
  have hb:isV s e.at'=true:=by
   cases hb:isV s e.at' with
   | true=>rfl
   | false=>rw[hb] at h0; exact absurd h0 (by decide)
  obtain⟨j,hj,hu⟩:=Ze7 hv hb
  rw[hu]
  exact ZM (Zmt h j hj) 333
 refine⟨_,rfl,_,rfl,_,rfl,_,hfirst,?_⟩
 by_cases hc:checkF s e=0
 ·obtain⟨h3,h4⟩:=check2 hk hc
  have h5:=of_decide_eq_true h3
  obtain⟨a,ha⟩:=Int.eq_ofNat_of_zero_le h5.1
  have ha2:a<s.vars.length:=by omega
  rw[if_pos hc,Comp.Ze,if_neg (fun hh=>hh hc),ha]
  refine⟨_,Zey,⟨by omega,by omega⟩,?_⟩
  show (Comp.next _ _).wp _
  have hst:setF idM (a:Int).toNat (IntKind.i64.wrap ((s.vars.length:Int)-1))=downM a s.vars.length (a+1):=by
   rw[wrap64 (by omega)]
   funext i
   simp only[setF,idM,downM,Int.toNat_natCast]
   by_cases h1:i.val=a
   ·rw[if_pos h1,if_pos h1]
   ·rw[if_neg h1,if_neg h1,if_neg (by omega)]
  rw[hst,wrapN (by omega)]
  refine (Zks hv ha2).then ?_
  rw[Znr ha2]
  refine⟨permS (rotF a (s.vars.length-1)) s,Zfy (ZaY (by omega) (by omega)) h,s.vars,ZeJ (l:=s.vars) (by omega),_,⟨⟨by omega,by rw[ha]; rw[wrapN (by omega)]; omega,by rw[ha]; rw[wrapN (by omega)]; omega,by omega⟩,rfl⟩,?_⟩
  show _=_
  unfold dropV
  rw[ha,wrapN (by omega)]
  rfl
 ·rw[if_neg hc,Comp.Ze,if_pos hc]
  rfl
theorem ZlM{s:Zb}(h:Good s){e:Zd}(hp:PolOk e.p)(hk:e.kind=2):(Zae s e).Ret (if checkF s e=0 then (dropV s e,0) else (zeroS,checkF s e)):=by
 have hv:=h.vars
 refine⟨_,ZaN h hp,?_⟩
 by_cases hc:checkF s e=0
 ·obtain⟨h3,h4⟩:=check2 hk hc
  have h5:=of_decide_eq_true h3
  obtain⟨a,ha⟩:=Int.eq_ofNat_of_zero_le h5.1
  have ha2:a<s.vars.length:=by omega
  have he:=h.eqs.len
  have hn:=h.neqs.len
  have hπ:=ZaY (a:=a) (b:=s.vars.length-1) (by omega) (by omega)
  have hr:=Zfz (a:=a) (b:=s.vars.length-1) (by omega) (by omega)
  have hw:IntKind.i64.wrap ((s.vars.length:Int)-1)=((s.vars.length-1:Nat):Int):=by rw[wrap64 (by omega)]; omega
  rw[if_pos hc,Comp.Ze,if_neg (fun hh=>hh hc)]
  refine⟨by simp[small]; omega,?_⟩
  rw[Comp.Ze,if_neg (by omega),Comp.Ze,if_pos hk,ha,wrapN (by omega),hw]
  refine⟨⟨by omega,by omega,by omega⟩,by simp[small]; omega,⟨by omega,by omega,by omega⟩,by simp[small]; omega,_,hr,_,Zck hπ (by omega) (fun q hq=>(h.eqs.pol q hq).1),_,hr,_,Zck hπ (by omega) (fun q hq=>(h.neqs.pol q hq).1),?_⟩
  show _=_
  unfold dropV
  rw[ha]
  simp
 ·rw[if_neg hc,Comp.Ze,if_pos hc]
  rfl
end Go.EL

namespace Go.EL
open Go Go.RowKit
def findQ(l:List Za)(id:Int):Option Za:=l.find? fun q=>decide (q.id=id)
theorem ZdN(id:Int):∀ (l:List Za) (k:Nat),(findQ l id=none∧findFrom id l k = -1)∨∃ j q,findQ l id=some q∧findFrom id l k=((k+j:Nat):Int)∧l[j]? = some q
 | [],_=>.inl ⟨rfl,rfl⟩
 | x::xs,k=>by
  unfold findQ
  simp only[findFrom,List.find?_cons]
  by_cases h:x.id=id
  ·rw[if_pos h,decide_eq_true h]
   exact .inr ⟨0,x,rfl,by simp,rfl⟩
  ·rw[if_neg h,decide_eq_false h]
   rcases ZdN id xs (k+1) with ⟨h1,h2⟩|⟨j,q,h1,h2,h3⟩
   ·exact .inl ⟨h1,h2⟩
   ·exact .inr ⟨j+1,q,h1,by rw[h2]; omega,by simpa using h3⟩
theorem ZbT(l:List Za)(id:Int):(findQ l id=none∧findI l id = -1)∨∃ j q,findQ l id=some q∧findI l id=((j:Nat):Int)∧l[j]? = some q:=by
 rcases ZdN id l 0 with h|⟨j,q,h1,h2,h3⟩
 ·exact .inl h
 ·exact .inr ⟨j,q,h1,by unfold findI; rw[h2]; simp,h3⟩
theorem ZcF{l:List Za}{id:Int}:decide (0≤findI l id)=(findQ l id).isSome:=by
 rcases ZbT l id with ⟨h1,h2⟩|⟨j,q,h1,h2,_⟩
 ·rw[h1,h2]; rfl
 ·rw[h1,h2,decide_eq_true (by omega)]; rfl
def findE(s:Zb)(id:Int):Za×Bool×Bool:=
 match findQ s.eqs id with
 | some q=>(q,false,true)
 | none=>match findQ s.neqs id with
  | some q=>(q,true,true)
  | none=>(⟨0,[]⟩,false,false)
theorem Zg1(s:Zb)(id:Int):(findE s id).2.2=hasB s id:=by
 unfold findE hasB
 rw[ZcF,ZcF]
 cases findQ s.eqs id with
 | some q=>rfl
 | none=>
  cases findQ s.neqs id <;> rfl
theorem Zl9{l:List Za}{k:Nat}(hk:k<l.length)(id:Int):findQ (l.drop k) id=if l[k].id=id then some l[k] else findQ (l.drop (k+1)) id:=by
 rw[List.drop_eq_getElem_cons hk]
 unfold findQ
 rw[List.find?_cons]
 by_cases h:l[k].id=id
 ·rw[if_pos h,decide_eq_true h]
 ·rw[if_neg h,decide_eq_false h]
theorem Zjk{l:List Za}(hl:l.length≤100)(id v:Int)(b:Za):(ZfO id v l (0,b)).Ret (match findQ l id with|some q=>.inl (q,decide (v=1),true)|none=>.inr b):=by
 refine Comp.Zh l.length (fun k st=>st=((k:Int),b)∧findQ l id=findQ (l.drop k) id) (fun k st hk hs=>?_) (fun st hs=>?_) ⟨rfl,rfl⟩
 ·obtain⟨rfl,he⟩:=hs
  rw[Zl9 hk] at he
  show (if (k:Int)<(l.length:Int) then _ else _:Comp _).wp _
  rw[Comp.Ze,if_pos (by omega)]
  refine⟨l[k],idxN hk,?_⟩
  rw[Comp.Ze]
  by_cases h:l[k].id=id
  ·rw[if_pos h] at he ⊢
   rw[he]; rfl
  ·rw[if_neg h] at he ⊢
   exact⟨by rw[wrapN (by omega)],he⟩
 ·obtain⟨rfl,he⟩:=hs
  show (if ((l.length:Nat):Int)<(l.length:Int) then _ else _:Comp _).wp _
  rw[Comp.Ze,if_neg (by omega),he,List.drop_length]
  rfl
theorem Zea{s:Zb}(h:Good s)(id:Int):(Za0 s id).Ret (findE s id):=by
 have he:=h.eqs.len
 have hn:=h.neqs.len
 show (Comp.next _ _).wp _
 refine Comp.Zh 2 (fun k st=>st=((k:Int),(⟨0,[]⟩:Za))∧(1≤k→findQ s.eqs id=none)∧(2≤k→findQ s.neqs id=none)) (fun k st hk hs=>?_) (fun st hs=>?_) ⟨rfl,fun hh=>absurd hh (by decide),fun hh=>absurd hh (by decide)⟩
 ·obtain⟨rfl,h1,h2⟩:=hs
  rcases (show k=0∨k=1 by omega) with rfl|rfl
  ·refine⟨s.eqs,⟨by omega,rfl⟩,?_⟩
   show (Comp.next _ _).wp _
   refine (Zjk (by omega) id _ _).then ?_
   cases hf:findQ s.eqs id with
   | some q=>
    show _=findE s id
    unfold findE
    rw[hf]; rfl
   | none=>exact⟨rfl,fun _=>rfl,fun hh=>absurd hh (by decide)⟩
  ·have h1:=h1 (by omega)
   refine⟨s.neqs,⟨by omega,rfl⟩,?_⟩
   show (Comp.next _ _).wp _
   refine (Zjk (by omega) id _ _).then ?_
   cases hf:findQ s.neqs id with
   | some q=>
    show _=findE s id
    unfold findE
    rw[h1,hf]; rfl
   | none=>exact⟨rfl,fun _=>h1,fun _=>rfl⟩
 ·obtain⟨rfl,h1,h2⟩:=hs
  show _=findE s id
  unfold findE
  rw[h1 (by omega),h2 (by omega)]
theorem Zdq{s:Zb}(h:Good s)(id:Int):(ZV s id).Ret (hasB s id):=⟨_,Zea h id,Zg1 s id⟩
theorem Zkx{s:Zb}{p:List Zc}(hp:PolOk p):(Zaj p s).Ret (fitB p (s.vars.length:Int)):=by
 refine⟨true,ZcM hp,_,Zh2 hp.len,by omega,?_⟩
 unfold fitB
 rw[Comp.Ze]
 split
 ·exact⟨_,Zhy hp,rfl⟩
 ·rfl
end Go.EL

namespace Go.EL
open Go Go.RowKit
theorem ZjQ{l:List Za}(hl:l.length≤100)(id:Int):(Zw l id).Ret (findI l id):=by
 refine Comp.Zh l.length (fun k s=>s=(k:Int)∧findI l id=findFrom id (l.drop k) k) (fun k s hk hs=>?_) (fun s hs=>?_) ⟨rfl,rfl⟩
 ·obtain⟨rfl,he⟩:=hs
  rw[List.drop_eq_getElem_cons hk] at he
  simp only[findFrom] at he
  rw[Comp.Ze,if_pos (by omega)]
  refine⟨l[k],idxN hk,_,rfl,?_⟩
  rw[Comp.Ze]
  by_cases h:l[k].id=id
  ·rw[if_pos h] at he
   rw[if_pos (decide_eq_true h)]
   exact he.symm
  ·rw[if_neg h] at he
   rw[if_neg (by simpa using h)]
   exact⟨wrapN (by omega),he⟩
 ·obtain⟨rfl,he⟩:=hs
  rw[Comp.Ze,if_neg (by omega)]
  rw[List.drop_length] at he
  exact he.symm
theorem ZhK{id:Int}:∀ (l:List Za) (k:Nat) {j:Nat},findFrom id l k=((k+j:Nat):Int)→j<l.length∧dropL (l.take (j+1)) id=l.take j
 | [],k,j,h=>by simp[findFrom] at h; omega
 | x::xs,k,j,h=>by
  simp only[findFrom] at h
  by_cases hx:x.id=id
  ·rw[if_pos hx] at h
   obtain rfl:j=0:=by omega
   exact⟨by simp,by simp[dropL,hx]⟩
  ·rw[if_neg hx] at h
   have hj:0<j:=by
    rcases ZdN id xs (k+1) with ⟨_,h2⟩|⟨i,q,_,h2,_⟩ <;> omega
   obtain⟨i,rfl⟩:∃ i,j=i+1:=⟨j-1,by omega⟩
   obtain⟨h1,h2⟩:=ZhK xs (k+1) (j:=i) (by rw[h]; omega)
   refine⟨by simp; omega,?_⟩
   unfold dropL at h2 ⊢
   rw[List.take_succ_cons,List.filter_cons,if_pos (by simpa using hx),h2,List.take_succ_cons]
theorem Zf7{l:List Za}{id:Int}(h:findI l id = -1):dropL l id=l:=by
 unfold dropL
 rw[List.filter_eq_self]
 intro q hq
 rcases ZbT l id with ⟨h1,_⟩|⟨j,q',_,h2,_⟩
 ·unfold findQ at h1
  have:=List.find?_eq_none.1 h1 q hq
  simpa using this
 ·omega
theorem ZfB{l:List Za}(hl:l.length≤100)(id:Int):(Zr l id).Ret (dropL l id):=by
 refine⟨_,ZjQ hl id,?_⟩
 rcases ZbT l id with ⟨_,h2⟩|⟨j,q,_,h2,_⟩
 ·rw[Comp.Ze,if_pos h2,Zf7 h2]
  rfl
 ·obtain⟨hj,h3⟩:=ZhK l 0 (j:=j) (by unfold findI at h2; rw[h2]; simp)
  rw[Comp.Ze,if_neg (by omega),h2]
  show (Comp.next _ _).wp _
  refine Comp.Zh (l.length-(j+1)) (fun k st=>∃ (s3:List Za) (i:Nat),st=(s3,(i:Int),((j+1+k:Nat):Int))∧i<j+1+k∧s3.length=l.length∧s3.take i=dropL (l.take (j+1+k)) id∧s3.drop (j+1+k)=l.drop (j+1+k)) (fun k st hk hs=>?_) (fun st hs=>?_) ⟨l,j,by rw[wrapN (by omega)],by omega,rfl,h3.symm,rfl⟩
  ·obtain⟨s3,i,rfl,hi,hlen,ht,hd⟩:=hs
   have hk':j+1+k<l.length:=by omega
   have hk3:j+1+k<s3.length:=by omega
   have hx:s3[j+1+k]=l[j+1+k]:=by
    have:=congrArg (·[0]?) hd
    simpa [List.getElem?_drop,List.getElem?_eq_getElem hk',List.getElem?_eq_getElem hk3] using this
   have hd1:s3.drop (j+1+k+1)=l.drop (j+1+k+1):=by
    have:=congrArg (List.drop 1) hd
    rwa [List.drop_drop,List.drop_drop] at this
   have ef:=ZZ hk' fun q=>decide (¬ q.id=id)
   show (if ((j+1+k:Nat):Int)<(s3.length:Int) then _ else _:Comp _).wp _
   rw[Comp.Ze,if_pos (by omega)]
   refine⟨s3[j+1+k],idxN hk3,_,rfl,?_⟩
   rw[Comp.Ze,hx]
   by_cases hid:l[j+1+k].id=id
   ·rw[if_neg (by simp[hid])]
    refine⟨s3,i,by rw[wrapN (by omega)]; rfl,by omega,hlen,?_,?_⟩
    ·rw[ht]
     unfold dropL
     rw[show j+1+(k+1)=j+1+k+1 by omega,ef,if_neg (by simp[hid]),List.append_nil]
    ·rw[show j+1+(k+1)=j+1+k+1 by omega,hd1]
   ·rw[if_pos (by simp[hid])]
    refine⟨s3[i]'(by omega),idxN (by omega),s3.set i l[j+1+k],i+1,by rw[wrapN (by omega),wrapN (by omega)]; rfl,by omega,by simp[hlen],?_,?_⟩
    ·unfold dropL at ht ⊢
     rw[show j+1+(k+1)=j+1+k+1 by omega,ef,if_pos (by simp[hid]),← ht]
     rw[List.take_set,List.take_succ_eq_append_getElem (by omega),List.set_append_right _ _ (by simp; omega)]
     simp[Nat.min_eq_left (show i≤s3.length by omega)]
    ·rw[show j+1+(k+1)=j+1+k+1 by omega,List.drop_set_of_lt (by omega),hd1]
  ·obtain⟨s3,i,rfl,hi,hlen,ht,hd⟩:=hs
   have e:j+1+(l.length-(j+1))=l.length:=by omega
   rw[e] at hi ht
   show (if ((j+1+(l.length-(j+1)):Nat):Int)<(s3.length:Int) then _ else _:Comp _).wp _
   rw[Comp.Ze,if_neg (by omega)]
   show (Zo s3 (i:Int)).wp _
   refine⟨⟨by omega,by omega,by omega⟩,⟨by omega,by omega,by simp; omega⟩,?_⟩
   show _=_
   rw[List.take_length] at ht
   rw[Int.toNat_natCast,List.take_append_of_le_length (by simp; omega),List.take_take,Nat.min_self,ht]
end Go.EL

namespace Go.EL
open Go Go.RowKit
theorem half{i j:Nat}(h:i+j≤200):IntKind.i64.wrap (Int.fdiv (IntKind.u64.wrap (IntKind.i64.wrap ((i:Int)+(j:Int)))) (2 ^ (min (1:Int).toNat IntKind.u64.bits)))=(((i+j) / 2:Nat):Int):=by
 rw[wrap64 (x:=(i:Int)+(j:Int)) (by omega)]
 have hu:IntKind.u64.wrap ((i:Int)+(j:Int))=(((i+j:Nat)):Int):=by
  simp only[IntKind.wrap,IntKind.bits,IntKind.signed,Bool.false_and,Bool.false_eq_true,if_false]
  omega
 rw[hu,show min (1:Int).toNat IntKind.u64.bits=1 from rfl,Zkw,wrap64 (by rw[Nat.shiftRight_eq_div_pow]; omega)]
 rw[Nat.shiftRight_eq_div_pow]
theorem ZkT(a b:Int):(ZcA a b).Ret (if a<b then -1 else if b<a then 1 else 0):=by
 refine⟨false,?_,false,?_,?_⟩
 ·exact (decide_eq_false (fun h=>h rfl):decide (¬ a=a)=false)
 ·exact (decide_eq_false (fun h=>h rfl):decide (¬ b=b)=false)
 rw[Comp.Ze,if_neg (by decide),Comp.Ze,if_neg (by decide),Comp.Ze]
 by_cases h:a<b
 ·rw[if_pos h,if_pos h]; rfl
 ·rw[if_neg h,if_neg h,Comp.Ze]
  by_cases h2:b<a
  ·rw[if_pos h2,if_pos h2]; rfl
  ·rw[if_neg h2,if_neg h2]; rfl
theorem Zgs(q:Za)(id:Int):(ZbS q id).Ret (if q.id<id then -1 else if id<q.id then 1 else 0):=⟨_,ZkT _ _,rfl⟩
theorem Zl2{l:List Za}(hl:l.length≤100)(hi:l.Pairwise fun a b=>a.id<b.id){id:Int}(hnew:∀ q ∈ l,q.id≠id):
  (Zi l id).wp (fun r=>∃ k:Nat,k≤l.length∧r=((k:Int),false)∧(∀ m (hm:m<l.length),m<k→l[m].id<id)∧∀ m (hm:m<l.length),k≤m→id<l[m].id):=by
 have hpw:=List.pairwise_iff_getElem.1 hi
 show (Comp.next _ _).wp _
 refine Comp.ZeC (fun st=>∃ a b:Nat,st=((a:Int),(b:Int))∧a≤b∧b≤l.length∧(∀ m (hm:m<l.length),m<a→l[m].id<id)∧∀ m (hm:m<l.length),b≤m→id<l[m].id) (fun st=>st.2.toNat-st.1.toNat) (fun st hs=>?_) _ ⟨0,l.length,rfl,by omega,by omega,fun m _ h=>by omega,fun m h1 h2=>by omega⟩
 obtain⟨a,b,rfl,h1,h2,h3,h4⟩:=hs
 show (if (a:Int)<(b:Int) then _ else _:Comp _).wp _
 rw[Comp.Ze]
 split
 ·rename_i hab
  have hm:(a+b) / 2<l.length:=by omega
  rw[half (by omega)]
  refine⟨l[(a+b) / 2],idxN hm,_,Zgs _ _,?_⟩
  have hne:=hnew _ (List.getElem_mem hm)
  rw[Comp.Ze]
  by_cases hlt:l[(a+b) / 2].id<id
  ·rw[if_pos (by rw[if_pos hlt]; decide)]
   refine⟨⟨(a+b) / 2+1,b,by rw[wrapN (by omega)],by omega,h2,fun m hm' hma=>?_,h4⟩,by rw[wrapN (by omega)]; simp; omega⟩
   by_cases e:m=(a+b) / 2
   ·subst e; exact hlt
   ·have:=hpw m ((a+b) / 2) hm' hm (by omega); omega
  ·rw[if_neg (by rw[if_neg hlt]; split <;> decide)]
   refine⟨⟨a,(a+b) / 2,rfl,by omega,by omega,h3,fun m hm' hma=>?_⟩,by simp; omega⟩
   by_cases e:m=(a+b) / 2
   ·subst e; omega
   ·have:=hpw ((a+b) / 2) m hm hm' (by omega); omega
 ·rename_i hab
  obtain rfl:a=b:=by omega
  show (Zl l id (a:Int)).wp _
  unfold Zl
  rw[Comp.Ze]
  split
  ·rename_i hal
   have hg:=h4 a (by omega) (by omega)
   refine⟨l[a]'(by omega),idxN (by omega),_,Zgs _ _,a,h2,?_,h3,h4⟩
   rw[if_neg (by omega),if_pos hg]; rfl
  ·exact⟨a,h2,rfl,h3,h4⟩
theorem place{l:List Za}{id:Int}{k:Nat}(hk:k≤l.length)(h1:∀ m (hm:m<l.length),m<k→l[m].id<id)(h2:∀ m (hm:m<l.length),k≤m→id<l[m].id):
  l.filter (fun q=>decide (q.id<id))=l.take k∧l.filter (fun q=>decide (id<q.id))=l.drop k:=by
 have hT:∀ q ∈ l.take k,q.id<id:=fun q hq=>by
  obtain⟨m,hm,rfl⟩:=List.mem_iff_getElem.1 hq
  simp only[List.length_take] at hm
  rw[List.getElem_take]
  exact h1 m (by omega) (by omega)
 have hD:∀ q ∈ l.drop k,id<q.id:=fun q hq=>by
  obtain⟨m,hm,rfl⟩:=List.mem_iff_getElem.1 hq
  simp only[List.length_drop] at hm
  rw[List.getElem_drop]
  exact h2 (k+m) (by omega) (by omega)
 constructor
 ·conv=>lhs; rw[← List.take_append_drop k l]
  rw[List.filter_append,filter_all fun q hq=>decide_eq_true (hT q hq),filter_none fun q hq=>decide_eq_false (by have:=hD q hq; omega),List.append_nil]
 ·conv=>lhs; rw[← List.take_append_drop k l]
  rw[List.filter_append,filter_none fun q hq=>decide_eq_false (by have:=hT q hq; omega),filter_all fun q hq=>decide_eq_true (hD q hq),List.nil_append]
end Go.EL

