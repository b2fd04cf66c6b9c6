/- The law EditValid holds for every input: a part of its proof (what the code does, plain models, and what they return). No condition. -/
import Derived.Test.YtenaadodnembpaaGreatRows
import Derived.Test.YtenaadodnembpaaGreatXV9b
import Derived.Test.YtenaadodnembpaaGreatXV9a
import Derived.Test.YtenaadodnembpaaGreatProg
namespace Go.Proofs.YtenaadodnembpaaGreat
open Go Go.EL Go.RowKit Go.Proofs
theorem ownK:ownKnob Tryz.prog.godebug=none:=by kernel_rfl
theorem laidK:laidOutB Tryz.prog=true:=by kernel_rfl
end Go.Proofs.YtenaadodnembpaaGreat

namespace Go.Proofs.YtenaadodnembpaaGreat
open Go Go.EL Go.RowKit Go.Proofs
theorem mix:Tryz.prog.follows .mixedOrders=true:=by kernel_rfl
theorem E10:Enters Tryz.prog 10:=enters_of Tryz.func10 (by kernel_rfl) rfl
theorem E11:Enters Tryz.prog 11:=enters_of Tryz.func11 (by kernel_rfl) rfl
theorem E13:Enters Tryz.prog 13:=enters_of Tryz.func13 (by kernel_rfl) rfl
theorem E14:Enters Tryz.prog 14:=enters_of Tryz.func14 (by kernel_rfl) rfl
theorem E15:Enters Tryz.prog 15:=enters_of Tryz.func15 (by kernel_rfl) rfl
theorem E16:Enters Tryz.prog 16:=enters_of Tryz.func16 (by kernel_rfl) rfl
theorem E18:Enters Tryz.prog 18:=enters_of Tryz.func18 (by kernel_rfl) rfl
theorem E19:Enters Tryz.prog 19:=enters_of Tryz.func19 (by kernel_rfl) rfl
theorem E20:Enters Tryz.prog 20:=enters_of Tryz.func20 (by kernel_rfl) rfl
theorem E22:Enters Tryz.prog 22:=enters_of Tryz.func22 (by kernel_rfl) rfl
theorem E28:Enters Tryz.prog 28:=enters_of Tryz.func28 (by kernel_rfl) rfl
theorem E29:Enters Tryz.prog 29:=enters_of Tryz.func29 (by kernel_rfl) rfl
theorem E30:Enters Tryz.prog 30:=enters_of Tryz.func30 (by kernel_rfl) rfl
theorem E31:Enters Tryz.prog 31:=enters_of Tryz.func31 (by kernel_rfl) rfl
theorem E32:Enters Tryz.prog 32:=enters_of Tryz.func32 (by kernel_rfl) rfl
theorem E33:Enters Tryz.prog 33:=enters_of Tryz.func33 (by kernel_rfl) rfl
theorem E34:Enters Tryz.prog 34:=enters_of Tryz.func34 (by kernel_rfl) rfl
theorem E35:Enters Tryz.prog 35:=enters_of Tryz.func35 (by kernel_rfl) rfl
theorem E36:Enters Tryz.prog 36:=enters_of Tryz.func36 (by kernel_rfl) rfl
theorem E37:Enters Tryz.prog 37:=enters_of Tryz.func37 (by kernel_rfl) rfl
theorem E38:Enters Tryz.prog 38:=enters_of Tryz.func38 (by kernel_rfl) rfl
theorem E39:Enters Tryz.prog 39:=enters_of Tryz.func39 (by kernel_rfl) rfl
theorem E40:Enters Tryz.prog 40:=enters_of Tryz.func40 (by kernel_rfl) rfl
theorem E41:Enters Tryz.prog 41:=enters_of Tryz.func41 (by kernel_rfl) rfl
theorem E42:Enters Tryz.prog 42:=enters_of Tryz.func42 (by kernel_rfl) rfl
theorem E43:Enters Tryz.prog 43:=enters_of Tryz.func43 (by kernel_rfl) rfl
theorem E44:Enters Tryz.prog 44:=enters_of Tryz.func44 (by kernel_rfl) rfl
theorem E45:Enters Tryz.prog 45:=enters_of Tryz.func45 (by kernel_rfl) rfl
theorem E46:Enters Tryz.prog 46:=enters_of Tryz.func46 (by kernel_rfl) rfl
theorem E47:Enters Tryz.prog 47:=enters_of Tryz.func47 (by kernel_rfl) rfl
theorem E48:Enters Tryz.prog 48:=enters_of Tryz.func48 (by kernel_rfl) rfl
theorem E49:Enters Tryz.prog 49:=enters_of Tryz.func49 (by kernel_rfl) rfl
theorem E51:Enters Tryz.prog 51:=enters_of Tryz.func51 (by kernel_rfl) rfl
theorem E52:Enters Tryz.prog 52:=enters_of Tryz.func52 (by kernel_rfl) rfl
theorem E53:Enters Tryz.prog 53:=enters_of Tryz.func53 (by kernel_rfl) rfl
theorem E54:Enters Tryz.prog 54:=enters_of Tryz.func54 (by kernel_rfl) rfl
theorem E55:Enters Tryz.prog 55:=enters_of Tryz.func55 (by kernel_rfl) rfl
theorem E56:Enters Tryz.prog 56:=enters_of Tryz.func56 (by kernel_rfl) rfl
theorem E57:Enters Tryz.prog 57:=enters_of Tryz.func57 (by kernel_rfl) rfl
theorem E58:Enters Tryz.prog 58:=enters_of Tryz.func58 (by kernel_rfl) rfl
theorem E59:Enters Tryz.prog 59:=enters_of Tryz.func59 (by kernel_rfl) rfl
theorem E60:Enters Tryz.prog 60:=enters_of Tryz.func60 (by kernel_rfl) rfl
theorem E61:Enters Tryz.prog 61:=enters_of Tryz.func61 (by kernel_rfl) rfl
theorem E62:Enters Tryz.prog 62:=enters_of Tryz.func62 (by kernel_rfl) rfl
theorem E63:Enters Tryz.prog 63:=enters_of Tryz.func63 (by kernel_rfl) rfl
theorem E64:Enters Tryz.prog 64:=enters_of Tryz.func64 (by kernel_rfl) rfl
theorem E65:Enters Tryz.prog 65:=enters_of Tryz.func65 (by kernel_rfl) rfl
theorem E66:Enters Tryz.prog 66:=enters_of Tryz.func66 (by kernel_rfl) rfl
theorem E67:Enters Tryz.prog 67:=enters_of Tryz.func67 (by kernel_rfl) rfl
theorem E68:Enters Tryz.prog 68:=enters_of Tryz.func68 (by kernel_rfl) rfl
theorem E69:Enters Tryz.prog 69:=enters_of Tryz.func69 (by kernel_rfl) rfl
theorem E70:Enters Tryz.prog 70:=enters_of Tryz.func70 (by kernel_rfl) rfl
theorem E71:Enters Tryz.prog 71:=enters_of Tryz.func71 (by kernel_rfl) rfl
theorem E72:Enters Tryz.prog 72:=enters_of Tryz.func72 (by kernel_rfl) rfl
theorem E73:Enters Tryz.prog 73:=enters_of Tryz.func73 (by kernel_rfl) rfl
theorem E74:Enters Tryz.prog 74:=enters_of Tryz.func74 (by kernel_rfl) rfl
theorem E75:Enters Tryz.prog 75:=enters_of Tryz.func75 (by kernel_rfl) rfl
theorem E76:Enters Tryz.prog 76:=enters_of Tryz.func76 (by kernel_rfl) rfl
theorem E77:Enters Tryz.prog 77:=enters_of Tryz.func77 (by kernel_rfl) rfl
theorem E78:Enters Tryz.prog 78:=enters_of Tryz.func78 (by kernel_rfl) rfl
theorem E79:Enters Tryz.prog 79:=enters_of Tryz.func79 (by kernel_rfl) rfl
theorem E80:Enters Tryz.prog 80:=enters_of Tryz.func80 (by kernel_rfl) rfl
theorem E81:Enters Tryz.prog 81:=enters_of Tryz.func81 (by kernel_rfl) rfl
theorem E82:Enters Tryz.prog 82:=enters_of Tryz.func82 (by kernel_rfl) rfl
theorem E83:Enters Tryz.prog 83:=enters_of Tryz.func83 (by kernel_rfl) rfl
theorem E84:Enters Tryz.prog 84:=enters_of Tryz.func84 (by kernel_rfl) rfl
theorem E86:Enters Tryz.prog 86:=enters_of Tryz.func86 (by kernel_rfl) rfl
theorem E87:Enters Tryz.prog 87:=enters_of Tryz.func87 (by kernel_rfl) rfl
theorem E88:Enters Tryz.prog 88:=enters_of Tryz.func88 (by kernel_rfl) rfl
theorem E89:Enters Tryz.prog 89:=enters_of Tryz.func89 (by kernel_rfl) rfl
theorem E90:Enters Tryz.prog 90:=enters_of Tryz.func90 (by kernel_rfl) rfl
theorem E91:Enters Tryz.prog 91:=enters_of Tryz.func91 (by kernel_rfl) rfl
theorem E92:Enters Tryz.prog 92:=enters_of Tryz.func92 (by kernel_rfl) rfl
theorem E93:Enters Tryz.prog 93:=enters_of Tryz.func93 (by kernel_rfl) rfl
theorem E94:Enters Tryz.prog 94:=enters_of Tryz.func94 (by kernel_rfl) rfl
theorem E95:Enters Tryz.prog 95:=enters_of Tryz.func95 (by kernel_rfl) rfl
theorem E96:Enters Tryz.prog 96:=enters_of Tryz.func96 (by kernel_rfl) rfl
theorem E97:Enters Tryz.prog 97:=enters_of Tryz.func97 (by kernel_rfl) rfl
theorem E98:Enters Tryz.prog 98:=enters_of Tryz.func98 (by kernel_rfl) rfl
theorem E99:Enters Tryz.prog 99:=enters_of Tryz.func99 (by kernel_rfl) rfl
theorem E100:Enters Tryz.prog 100:=enters_of Tryz.func100 (by kernel_rfl) rfl
theorem E101:Enters Tryz.prog 101:=enters_of Tryz.func101 (by kernel_rfl) rfl
theorem E102:Enters Tryz.prog 102:=enters_of Tryz.func102 (by kernel_rfl) rfl
theorem E103:Enters Tryz.prog 103:=enters_of Tryz.func103 (by kernel_rfl) rfl
theorem E104:Enters Tryz.prog 104:=enters_of Tryz.func104 (by kernel_rfl) rfl
theorem E105:Enters Tryz.prog 105:=enters_of Tryz.func105 (by kernel_rfl) rfl
theorem E106:Enters Tryz.prog 106:=enters_of Tryz.func106 (by kernel_rfl) rfl
theorem E107:Enters Tryz.prog 107:=enters_of Tryz.func107 (by kernel_rfl) rfl
theorem E108:Enters Tryz.prog 108:=enters_of Tryz.func108 (by kernel_rfl) rfl
theorem E109:Enters Tryz.prog 109:=enters_of Tryz.func109 (by kernel_rfl) rfl
theorem E110:Enters Tryz.prog 110:=enters_of Tryz.func110 (by kernel_rfl) rfl
theorem E111:Enters Tryz.prog 111:=enters_of Tryz.func111 (by kernel_rfl) rfl
theorem E112:Enters Tryz.prog 112:=enters_of Tryz.func112 (by kernel_rfl) rfl
theorem E113:Enters Tryz.prog 113:=enters_of Tryz.func113 (by kernel_rfl) rfl
theorem E114:Enters Tryz.prog 114:=enters_of Tryz.func114 (by kernel_rfl) rfl
theorem E115:Enters Tryz.prog 115:=enters_of Tryz.func115 (by kernel_rfl) rfl
theorem E116:Enters Tryz.prog 116:=enters_of Tryz.func116 (by kernel_rfl) rfl
theorem E117:Enters Tryz.prog 117:=enters_of Tryz.func117 (by kernel_rfl) rfl
theorem E118:Enters Tryz.prog 118:=enters_of Tryz.func118 (by kernel_rfl) rfl
theorem E119:Enters Tryz.prog 119:=enters_of Tryz.func119 (by kernel_rfl) rfl
theorem E120:Enters Tryz.prog 120:=enters_of Tryz.func120 (by kernel_rfl) rfl
theorem E121:Enters Tryz.prog 121:=enters_of Tryz.func121 (by kernel_rfl) rfl
theorem E122:Enters Tryz.prog 122:=enters_of Tryz.func122 (by kernel_rfl) rfl
theorem E123:Enters Tryz.prog 123:=enters_of Tryz.func123 (by kernel_rfl) rfl
theorem E124:Enters Tryz.prog 124:=enters_of Tryz.func124 (by kernel_rfl) rfl
theorem E125:Enters Tryz.prog 125:=enters_of Tryz.func125 (by kernel_rfl) rfl
theorem E126:Enters Tryz.prog 126:=enters_of Tryz.func126 (by kernel_rfl) rfl
theorem E127:Enters Tryz.prog 127:=enters_of Tryz.func127 (by kernel_rfl) rfl
theorem E128:Enters Tryz.prog 128:=enters_of Tryz.func128 (by kernel_rfl) rfl
theorem E129:Enters Tryz.prog 129:=enters_of Tryz.func129 (by kernel_rfl) rfl
theorem E130:Enters Tryz.prog 130:=enters_of Tryz.func130 (by kernel_rfl) rfl
theorem E131:Enters Tryz.prog 131:=enters_of Tryz.func131 (by kernel_rfl) rfl
theorem E132:Enters Tryz.prog 132:=enters_of Tryz.func132 (by kernel_rfl) rfl
theorem E133:Enters Tryz.prog 133:=enters_of Tryz.func133 (by kernel_rfl) rfl
theorem E134:Enters Tryz.prog 134:=enters_of Tryz.func134 (by kernel_rfl) rfl
theorem E135:Enters Tryz.prog 135:=enters_of Tryz.func135 (by kernel_rfl) rfl
theorem E136:Enters Tryz.prog 136:=enters_of Tryz.func136 (by kernel_rfl) rfl
theorem E137:Enters Tryz.prog 137:=enters_of Tryz.func137 (by kernel_rfl) rfl
theorem E138:Enters Tryz.prog 138:=enters_of Tryz.func138 (by kernel_rfl) rfl
theorem E139:Enters Tryz.prog 139:=enters_of Tryz.func139 (by kernel_rfl) rfl
theorem E140:Enters Tryz.prog 140:=enters_of Tryz.func140 (by kernel_rfl) rfl
theorem E141:Enters Tryz.prog 141:=enters_of Tryz.func141 (by kernel_rfl) rfl
theorem E142:Enters Tryz.prog 142:=enters_of Tryz.func142 (by kernel_rfl) rfl
theorem E145:Enters Tryz.prog 145:=enters_of Tryz.func145 (by kernel_rfl) rfl
theorem E146:Enters Tryz.prog 146:=enters_of Tryz.func146 (by kernel_rfl) rfl
theorem E147:Enters Tryz.prog 147:=enters_of Tryz.func147 (by kernel_rfl) rfl
theorem E148:Enters Tryz.prog 148:=enters_of Tryz.func148 (by kernel_rfl) rfl
theorem E149:Enters Tryz.prog 149:=enters_of Tryz.func149 (by kernel_rfl) rfl
theorem E150:Enters Tryz.prog 150:=enters_of Tryz.func150 (by kernel_rfl) rfl
theorem E151:Enters Tryz.prog 151:=enters_of Tryz.func151 (by kernel_rfl) rfl
theorem E152:Enters Tryz.prog 152:=enters_of Tryz.func152 (by kernel_rfl) rfl
theorem E153:Enters Tryz.prog 153:=enters_of Tryz.func153 (by kernel_rfl) rfl
theorem E154:Enters Tryz.prog 154:=enters_of Tryz.func154 (by kernel_rfl) rfl
theorem E155:Enters Tryz.prog 155:=enters_of Tryz.func155 (by kernel_rfl) rfl
theorem E156:Enters Tryz.prog 156:=enters_of Tryz.func156 (by kernel_rfl) rfl
theorem E157:Enters Tryz.prog 157:=enters_of Tryz.func157 (by kernel_rfl) rfl
theorem E158:Enters Tryz.prog 158:=enters_of Tryz.func158 (by kernel_rfl) rfl
theorem E159:Enters Tryz.prog 159:=enters_of Tryz.func159 (by kernel_rfl) rfl
theorem E160:Enters Tryz.prog 160:=enters_of Tryz.func160 (by kernel_rfl) rfl
theorem E161:Enters Tryz.prog 161:=enters_of Tryz.func161 (by kernel_rfl) rfl
theorem E162:Enters Tryz.prog 162:=enters_of Tryz.func162 (by kernel_rfl) rfl
theorem E164:Enters Tryz.prog 164:=enters_of Tryz.func164 (by kernel_rfl) rfl
theorem E165:Enters Tryz.prog 165:=enters_of Tryz.func165 (by kernel_rfl) rfl
theorem E166:Enters Tryz.prog 166:=enters_of Tryz.func166 (by kernel_rfl) rfl
theorem E167:Enters Tryz.prog 167:=enters_of Tryz.func167 (by kernel_rfl) rfl
theorem E168:Enters Tryz.prog 168:=enters_of Tryz.func168 (by kernel_rfl) rfl
theorem E169:Enters Tryz.prog 169:=enters_of Tryz.func169 (by kernel_rfl) rfl
theorem E170:Enters Tryz.prog 170:=enters_of Tryz.func170 (by kernel_rfl) rfl
theorem E171:Enters Tryz.prog 171:=enters_of Tryz.func171 (by kernel_rfl) rfl
theorem E172:Enters Tryz.prog 172:=enters_of Tryz.func172 (by kernel_rfl) rfl
theorem E173:Enters Tryz.prog 173:=enters_of Tryz.func173 (by kernel_rfl) rfl
theorem E174:Enters Tryz.prog 174:=enters_of Tryz.func174 (by kernel_rfl) rfl
theorem E175:Enters Tryz.prog 175:=enters_of Tryz.func175 (by kernel_rfl) rfl
theorem E176:Enters Tryz.prog 176:=enters_of Tryz.func176 (by kernel_rfl) rfl
theorem E178:Enters Tryz.prog 178:=enters_of Tryz.func178 (by kernel_rfl) rfl
theorem E181:Enters Tryz.prog 181:=enters_of Tryz.func181 (by kernel_rfl) rfl
theorem E182:Enters Tryz.prog 182:=enters_of Tryz.func182 (by kernel_rfl) rfl
theorem E183:Enters Tryz.prog 183:=enters_of Tryz.func183 (by kernel_rfl) rfl
theorem E184:Enters Tryz.prog 184:=enters_of Tryz.func184 (by kernel_rfl) rfl
theorem E185:Enters Tryz.prog 185:=enters_of Tryz.func185 (by kernel_rfl) rfl
theorem E186:Enters Tryz.prog 186:=enters_of Tryz.func186 (by kernel_rfl) rfl
theorem E187:Enters Tryz.prog 187:=enters_of Tryz.func187 (by kernel_rfl) rfl
theorem E188:Enters Tryz.prog 188:=enters_of Tryz.func188 (by kernel_rfl) rfl
theorem E189:Enters Tryz.prog 189:=enters_of Tryz.func189 (by kernel_rfl) rfl
theorem E190:Enters Tryz.prog 190:=enters_of Tryz.func190 (by kernel_rfl) rfl
theorem E191:Enters Tryz.prog 191:=enters_of Tryz.func191 (by kernel_rfl) rfl
theorem E192:Enters Tryz.prog 192:=enters_of Tryz.func192 (by kernel_rfl) rfl
theorem E193:Enters Tryz.prog 193:=enters_of Tryz.func193 (by kernel_rfl) rfl
theorem E195:Enters Tryz.prog 195:=enters_of Tryz.func195 (by kernel_rfl) rfl
theorem E196:Enters Tryz.prog 196:=enters_of Tryz.func196 (by kernel_rfl) rfl
theorem E199:Enters Tryz.prog 199:=enters_of Tryz.func199 (by kernel_rfl) rfl
theorem E200:Enters Tryz.prog 200:=enters_of Tryz.func200 (by kernel_rfl) rfl
theorem E201:Enters Tryz.prog 201:=enters_of Tryz.func201 (by kernel_rfl) rfl
theorem E202:Enters Tryz.prog 202:=enters_of Tryz.func202 (by kernel_rfl) rfl
theorem E203:Enters Tryz.prog 203:=enters_of Tryz.func203 (by kernel_rfl) rfl
theorem E205:Enters Tryz.prog 205:=enters_of Tryz.func205 (by kernel_rfl) rfl
theorem E206:Enters Tryz.prog 206:=enters_of Tryz.func206 (by kernel_rfl) rfl
theorem E209:Enters Tryz.prog 209:=enters_of Tryz.func209 (by kernel_rfl) rfl
theorem E210:Enters Tryz.prog 210:=enters_of Tryz.func210 (by kernel_rfl) rfl
theorem E212:Enters Tryz.prog 212:=enters_of Tryz.func212 (by kernel_rfl) rfl
theorem E230:Enters Tryz.prog 230:=enters_of Tryz.func230 (by kernel_rfl) rfl
theorem ag26:AggT Tryz.prog 26 1:=⟨by kernel_rfl,by kernel_rfl⟩
theorem ag28:AggT Tryz.prog 28 7:=⟨by kernel_rfl,by kernel_rfl⟩
theorem ag33:AggT Tryz.prog 33 4:=⟨by kernel_rfl,by kernel_rfl⟩
theorem ag40:AggT Tryz.prog 40 7:=⟨by kernel_rfl,by kernel_rfl⟩
theorem ag50:AggT Tryz.prog 50 6:=⟨by kernel_rfl,by kernel_rfl⟩
theorem ag58:AggT Tryz.prog 58 2:=⟨by kernel_rfl,by kernel_rfl⟩
theorem ag60:AggT Tryz.prog 60 4:=⟨by kernel_rfl,by kernel_rfl⟩
theorem ag68:AggT Tryz.prog 68 2:=⟨by kernel_rfl,by kernel_rfl⟩
theorem ag76:AggT Tryz.prog 76 5:=⟨by kernel_rfl,by kernel_rfl⟩
theorem ag83:AggT Tryz.prog 83 8:=⟨by kernel_rfl,by kernel_rfl⟩
theorem ag99:AggT Tryz.prog 99 8:=⟨by kernel_rfl,by kernel_rfl⟩
theorem ag101:AggT Tryz.prog 101 12:=⟨by kernel_rfl,by kernel_rfl⟩
theorem eg99:Tryz.prog.eqGuardType Tryz.prog.depth 99=false:=by kernel_rfl
theorem el9:ElT Tryz.prog 9 (.string ByteArray.empty) 1 16:=by unfold ElT; kernel_rfl
theorem el40:ElT Tryz.prog 40 (.agg ([.int .i64 0,.string ByteArray.empty,.int .i64 0,.int .i64 0,.int .i64 0,.slice none 0 0,.bool false]).toArray) 7 80:=by unfold ElT; kernel_rfl
theorem el68:ElT Tryz.prog 68 (.agg ([.int .i64 0,.slice none 0 0]).toArray) 2 32:=by unfold ElT; kernel_rfl
theorem el101:ElT Tryz.prog 101 (.agg (([.bool false,.slice none 0 0,.bool false,.slice none 0 0]:List Value)++(vecG (Value.int .i64) 8 (fun _=>0))).toArray) 12 128:=by unfold ElT; kernel_rfl
theorem el156:ElT Tryz.prog 156 (.int .u32 0) 1 4:=by unfold ElT; kernel_rfl
theorem Y0.fa26_0 {N:Nat} {dst:Option Nat} {ty:TypeId} {pos:String} {af:Array Edge} {g:Option (Nat×Bool)} {fr:Fr} {S:Asrt} {x:Operand} {b off:Nat} (hx:fr.ev x=some (.pointer (some ⟨b,off,none⟩))):Y0 Tryz.prog N ⟨dst,.fieldAddr 26 x 0,ty,pos,af,g⟩ fr S (.pointer (some ⟨b,off + 0,none⟩)):=by
  have h:Y0 Tryz.prog N ⟨dst,.fieldAddr 26 x 0,ty,pos,af,g⟩ fr S _:=Y0.fieldAddr Tryz.underlying26 rfl (fun _=>by kernel_rfl) hx
  exact h
theorem Y0.fa28_0 {N:Nat} {dst:Option Nat} {ty:TypeId} {pos:String} {af:Array Edge} {g:Option (Nat×Bool)} {fr:Fr} {S:Asrt} {x:Operand} {b off:Nat} (hx:fr.ev x=some (.pointer (some ⟨b,off,none⟩))):Y0 Tryz.prog N ⟨dst,.fieldAddr 28 x 0,ty,pos,af,g⟩ fr S (.pointer (some ⟨b,off + 0,none⟩)):=by
  have h:Y0 Tryz.prog N ⟨dst,.fieldAddr 28 x 0,ty,pos,af,g⟩ fr S _:=Y0.fieldAddr Tryz.underlying28 rfl (fun _=>by kernel_rfl) hx
  exact h
theorem Y0.fa28_1 {N:Nat} {dst:Option Nat} {ty:TypeId} {pos:String} {af:Array Edge} {g:Option (Nat×Bool)} {fr:Fr} {S:Asrt} {x:Operand} {b off:Nat} (hx:fr.ev x=some (.pointer (some ⟨b,off,none⟩))):Y0 Tryz.prog N ⟨dst,.fieldAddr 28 x 1,ty,pos,af,g⟩ fr S (.pointer (some ⟨b,off + 1,none⟩)):=by
  have h:Y0 Tryz.prog N ⟨dst,.fieldAddr 28 x 1,ty,pos,af,g⟩ fr S _:=Y0.fieldAddr Tryz.underlying28 rfl (fun _=>by kernel_rfl) hx
  exact h
theorem Y0.fa28_2 {N:Nat} {dst:Option Nat} {ty:TypeId} {pos:String} {af:Array Edge} {g:Option (Nat×Bool)} {fr:Fr} {S:Asrt} {x:Operand} {b off:Nat} (hx:fr.ev x=some (.pointer (some ⟨b,off,none⟩))):Y0 Tryz.prog N ⟨dst,.fieldAddr 28 x 2,ty,pos,af,g⟩ fr S (.pointer (some ⟨b,off + 2,none⟩)):=by
  have h:Y0 Tryz.prog N ⟨dst,.fieldAddr 28 x 2,ty,pos,af,g⟩ fr S _:=Y0.fieldAddr Tryz.underlying28 rfl (fun _=>by kernel_rfl) hx
  exact h
theorem Y0.fa28_3 {N:Nat} {dst:Option Nat} {ty:TypeId} {pos:String} {af:Array Edge} {g:Option (Nat×Bool)} {fr:Fr} {S:Asrt} {x:Operand} {b off:Nat} (hx:fr.ev x=some (.pointer (some ⟨b,off,none⟩))):Y0 Tryz.prog N ⟨dst,.fieldAddr 28 x 3,ty,pos,af,g⟩ fr S (.pointer (some ⟨b,off + 3,none⟩)):=by
  have h:Y0 Tryz.prog N ⟨dst,.fieldAddr 28 x 3,ty,pos,af,g⟩ fr S _:=Y0.fieldAddr Tryz.underlying28 rfl (fun _=>by kernel_rfl) hx
  exact h
theorem Y0.fa28_4 {N:Nat} {dst:Option Nat} {ty:TypeId} {pos:String} {af:Array Edge} {g:Option (Nat×Bool)} {fr:Fr} {S:Asrt} {x:Operand} {b off:Nat} (hx:fr.ev x=some (.pointer (some ⟨b,off,none⟩))):Y0 Tryz.prog N ⟨dst,.fieldAddr 28 x 4,ty,pos,af,g⟩ fr S (.pointer (some ⟨b,off + 4,none⟩)):=by
  have h:Y0 Tryz.prog N ⟨dst,.fieldAddr 28 x 4,ty,pos,af,g⟩ fr S _:=Y0.fieldAddr Tryz.underlying28 rfl (fun _=>by kernel_rfl) hx
  exact h
theorem Y0.fa28_5 {N:Nat} {dst:Option Nat} {ty:TypeId} {pos:String} {af:Array Edge} {g:Option (Nat×Bool)} {fr:Fr} {S:Asrt} {x:Operand} {b off:Nat} (hx:fr.ev x=some (.pointer (some ⟨b,off,none⟩))):Y0 Tryz.prog N ⟨dst,.fieldAddr 28 x 5,ty,pos,af,g⟩ fr S (.pointer (some ⟨b,off + 5,none⟩)):=by
  have h:Y0 Tryz.prog N ⟨dst,.fieldAddr 28 x 5,ty,pos,af,g⟩ fr S _:=Y0.fieldAddr Tryz.underlying28 rfl (fun _=>by kernel_rfl) hx
  exact h
theorem Y0.fa28_6 {N:Nat} {dst:Option Nat} {ty:TypeId} {pos:String} {af:Array Edge} {g:Option (Nat×Bool)} {fr:Fr} {S:Asrt} {x:Operand} {b off:Nat} (hx:fr.ev x=some (.pointer (some ⟨b,off,none⟩))):Y0 Tryz.prog N ⟨dst,.fieldAddr 28 x 6,ty,pos,af,g⟩ fr S (.pointer (some ⟨b,off + 6,none⟩)):=by
  have h:Y0 Tryz.prog N ⟨dst,.fieldAddr 28 x 6,ty,pos,af,g⟩ fr S _:=Y0.fieldAddr Tryz.underlying28 rfl (fun _=>by kernel_rfl) hx
  exact h
theorem Y0.fa33_0 {N:Nat} {dst:Option Nat} {ty:TypeId} {pos:String} {af:Array Edge} {g:Option (Nat×Bool)} {fr:Fr} {S:Asrt} {x:Operand} {b off:Nat} (hx:fr.ev x=some (.pointer (some ⟨b,off,none⟩))):Y0 Tryz.prog N ⟨dst,.fieldAddr 33 x 0,ty,pos,af,g⟩ fr S (.pointer (some ⟨b,off + 0,none⟩)):=by
  have h:Y0 Tryz.prog N ⟨dst,.fieldAddr 33 x 0,ty,pos,af,g⟩ fr S _:=Y0.fieldAddr Tryz.underlying33 rfl (fun _=>by kernel_rfl) hx
  exact h
theorem Y0.fa33_1 {N:Nat} {dst:Option Nat} {ty:TypeId} {pos:String} {af:Array Edge} {g:Option (Nat×Bool)} {fr:Fr} {S:Asrt} {x:Operand} {b off:Nat} (hx:fr.ev x=some (.pointer (some ⟨b,off,none⟩))):Y0 Tryz.prog N ⟨dst,.fieldAddr 33 x 1,ty,pos,af,g⟩ fr S (.pointer (some ⟨b,off + 1,none⟩)):=by
  have h:Y0 Tryz.prog N ⟨dst,.fieldAddr 33 x 1,ty,pos,af,g⟩ fr S _:=Y0.fieldAddr Tryz.underlying33 rfl (fun _=>by kernel_rfl) hx
  exact h
theorem Y0.fa33_2 {N:Nat} {dst:Option Nat} {ty:TypeId} {pos:String} {af:Array Edge} {g:Option (Nat×Bool)} {fr:Fr} {S:Asrt} {x:Operand} {b off:Nat} (hx:fr.ev x=some (.pointer (some ⟨b,off,none⟩))):Y0 Tryz.prog N ⟨dst,.fieldAddr 33 x 2,ty,pos,af,g⟩ fr S (.pointer (some ⟨b,off + 2,none⟩)):=by
  have h:Y0 Tryz.prog N ⟨dst,.fieldAddr 33 x 2,ty,pos,af,g⟩ fr S _:=Y0.fieldAddr Tryz.underlying33 rfl (fun _=>by kernel_rfl) hx
  exact h
theorem Y0.fa33_3 {N:Nat} {dst:Option Nat} {ty:TypeId} {pos:String} {af:Array Edge} {g:Option (Nat×Bool)} {fr:Fr} {S:Asrt} {x:Operand} {b off:Nat} (hx:fr.ev x=some (.pointer (some ⟨b,off,none⟩))):Y0 Tryz.prog N ⟨dst,.fieldAddr 33 x 3,ty,pos,af,g⟩ fr S (.pointer (some ⟨b,off + 3,none⟩)):=by
  have h:Y0 Tryz.prog N ⟨dst,.fieldAddr 33 x 3,ty,pos,af,g⟩ fr S _:=Y0.fieldAddr Tryz.underlying33 rfl (fun _=>by kernel_rfl) hx
  exact h
theorem Y0.fa40_0 {N:Nat} {dst:Option Nat} {ty:TypeId} {pos:String} {af:Array Edge} {g:Option (Nat×Bool)} {fr:Fr} {S:Asrt} {x:Operand} {b off:Nat} (hx:fr.ev x=some (.pointer (some ⟨b,off,none⟩))):Y0 Tryz.prog N ⟨dst,.fieldAddr 40 x 0,ty,pos,af,g⟩ fr S (.pointer (some ⟨b,off + 0,none⟩)):=by
  have h:Y0 Tryz.prog N ⟨dst,.fieldAddr 40 x 0,ty,pos,af,g⟩ fr S _:=Y0.fieldAddr Tryz.underlying40 rfl (fun _=>by kernel_rfl) hx
  exact h
theorem Y0.fa40_1 {N:Nat} {dst:Option Nat} {ty:TypeId} {pos:String} {af:Array Edge} {g:Option (Nat×Bool)} {fr:Fr} {S:Asrt} {x:Operand} {b off:Nat} (hx:fr.ev x=some (.pointer (some ⟨b,off,none⟩))):Y0 Tryz.prog N ⟨dst,.fieldAddr 40 x 1,ty,pos,af,g⟩ fr S (.pointer (some ⟨b,off + 1,none⟩)):=by
  have h:Y0 Tryz.prog N ⟨dst,.fieldAddr 40 x 1,ty,pos,af,g⟩ fr S _:=Y0.fieldAddr Tryz.underlying40 rfl (fun _=>by kernel_rfl) hx
  exact h
theorem Y0.fa40_2 {N:Nat} {dst:Option Nat} {ty:TypeId} {pos:String} {af:Array Edge} {g:Option (Nat×Bool)} {fr:Fr} {S:Asrt} {x:Operand} {b off:Nat} (hx:fr.ev x=some (.pointer (some ⟨b,off,none⟩))):Y0 Tryz.prog N ⟨dst,.fieldAddr 40 x 2,ty,pos,af,g⟩ fr S (.pointer (some ⟨b,off + 2,none⟩)):=by
  have h:Y0 Tryz.prog N ⟨dst,.fieldAddr 40 x 2,ty,pos,af,g⟩ fr S _:=Y0.fieldAddr Tryz.underlying40 rfl (fun _=>by kernel_rfl) hx
  exact h
theorem Y0.fa40_3 {N:Nat} {dst:Option Nat} {ty:TypeId} {pos:String} {af:Array Edge} {g:Option (Nat×Bool)} {fr:Fr} {S:Asrt} {x:Operand} {b off:Nat} (hx:fr.ev x=some (.pointer (some ⟨b,off,none⟩))):Y0 Tryz.prog N ⟨dst,.fieldAddr 40 x 3,ty,pos,af,g⟩ fr S (.pointer (some ⟨b,off + 3,none⟩)):=by
  have h:Y0 Tryz.prog N ⟨dst,.fieldAddr 40 x 3,ty,pos,af,g⟩ fr S _:=Y0.fieldAddr Tryz.underlying40 rfl (fun _=>by kernel_rfl) hx
  exact h
theorem Y0.fa40_4 {N:Nat} {dst:Option Nat} {ty:TypeId} {pos:String} {af:Array Edge} {g:Option (Nat×Bool)} {fr:Fr} {S:Asrt} {x:Operand} {b off:Nat} (hx:fr.ev x=some (.pointer (some ⟨b,off,none⟩))):Y0 Tryz.prog N ⟨dst,.fieldAddr 40 x 4,ty,pos,af,g⟩ fr S (.pointer (some ⟨b,off + 4,none⟩)):=by
  have h:Y0 Tryz.prog N ⟨dst,.fieldAddr 40 x 4,ty,pos,af,g⟩ fr S _:=Y0.fieldAddr Tryz.underlying40 rfl (fun _=>by kernel_rfl) hx
  exact h
theorem Y0.fa40_5 {N:Nat} {dst:Option Nat} {ty:TypeId} {pos:String} {af:Array Edge} {g:Option (Nat×Bool)} {fr:Fr} {S:Asrt} {x:Operand} {b off:Nat} (hx:fr.ev x=some (.pointer (some ⟨b,off,none⟩))):Y0 Tryz.prog N ⟨dst,.fieldAddr 40 x 5,ty,pos,af,g⟩ fr S (.pointer (some ⟨b,off + 5,none⟩)):=by
  have h:Y0 Tryz.prog N ⟨dst,.fieldAddr 40 x 5,ty,pos,af,g⟩ fr S _:=Y0.fieldAddr Tryz.underlying40 rfl (fun _=>by kernel_rfl) hx
  exact h
theorem Y0.fa40_6 {N:Nat} {dst:Option Nat} {ty:TypeId} {pos:String} {af:Array Edge} {g:Option (Nat×Bool)} {fr:Fr} {S:Asrt} {x:Operand} {b off:Nat} (hx:fr.ev x=some (.pointer (some ⟨b,off,none⟩))):Y0 Tryz.prog N ⟨dst,.fieldAddr 40 x 6,ty,pos,af,g⟩ fr S (.pointer (some ⟨b,off + 6,none⟩)):=by
  have h:Y0 Tryz.prog N ⟨dst,.fieldAddr 40 x 6,ty,pos,af,g⟩ fr S _:=Y0.fieldAddr Tryz.underlying40 rfl (fun _=>by kernel_rfl) hx
  exact h
theorem Y0.fa50_0 {N:Nat} {dst:Option Nat} {ty:TypeId} {pos:String} {af:Array Edge} {g:Option (Nat×Bool)} {fr:Fr} {S:Asrt} {x:Operand} {b off:Nat} (hx:fr.ev x=some (.pointer (some ⟨b,off,none⟩))):Y0 Tryz.prog N ⟨dst,.fieldAddr 50 x 0,ty,pos,af,g⟩ fr S (.pointer (some ⟨b,off + 0,none⟩)):=by
  have h:Y0 Tryz.prog N ⟨dst,.fieldAddr 50 x 0,ty,pos,af,g⟩ fr S _:=Y0.fieldAddr Tryz.underlying50 rfl (fun _=>by kernel_rfl) hx
  exact h
theorem Y0.fa50_1 {N:Nat} {dst:Option Nat} {ty:TypeId} {pos:String} {af:Array Edge} {g:Option (Nat×Bool)} {fr:Fr} {S:Asrt} {x:Operand} {b off:Nat} (hx:fr.ev x=some (.pointer (some ⟨b,off,none⟩))):Y0 Tryz.prog N ⟨dst,.fieldAddr 50 x 1,ty,pos,af,g⟩ fr S (.pointer (some ⟨b,off + 4,none⟩)):=by
  have h:Y0 Tryz.prog N ⟨dst,.fieldAddr 50 x 1,ty,pos,af,g⟩ fr S _:=Y0.fieldAddr Tryz.underlying50 rfl (fun _=>by kernel_rfl) hx
  exact h
theorem Y0.fa50_2 {N:Nat} {dst:Option Nat} {ty:TypeId} {pos:String} {af:Array Edge} {g:Option (Nat×Bool)} {fr:Fr} {S:Asrt} {x:Operand} {b off:Nat} (hx:fr.ev x=some (.pointer (some ⟨b,off,none⟩))):Y0 Tryz.prog N ⟨dst,.fieldAddr 50 x 2,ty,pos,af,g⟩ fr S (.pointer (some ⟨b,off + 5,none⟩)):=by
  have h:Y0 Tryz.prog N ⟨dst,.fieldAddr 50 x 2,ty,pos,af,g⟩ fr S _:=Y0.fieldAddr Tryz.underlying50 rfl (fun _=>by kernel_rfl) hx
  exact h
theorem Y0.fa58_0 {N:Nat} {dst:Option Nat} {ty:TypeId} {pos:String} {af:Array Edge} {g:Option (Nat×Bool)} {fr:Fr} {S:Asrt} {x:Operand} {b off:Nat} (hx:fr.ev x=some (.pointer (some ⟨b,off,none⟩))):Y0 Tryz.prog N ⟨dst,.fieldAddr 58 x 0,ty,pos,af,g⟩ fr S (.pointer (some ⟨b,off + 0,none⟩)):=by
  have h:Y0 Tryz.prog N ⟨dst,.fieldAddr 58 x 0,ty,pos,af,g⟩ fr S _:=Y0.fieldAddr Tryz.underlying58 rfl (fun _=>by kernel_rfl) hx
  exact h
theorem Y0.fa58_1 {N:Nat} {dst:Option Nat} {ty:TypeId} {pos:String} {af:Array Edge} {g:Option (Nat×Bool)} {fr:Fr} {S:Asrt} {x:Operand} {b off:Nat} (hx:fr.ev x=some (.pointer (some ⟨b,off,none⟩))):Y0 Tryz.prog N ⟨dst,.fieldAddr 58 x 1,ty,pos,af,g⟩ fr S (.pointer (some ⟨b,off + 1,none⟩)):=by
  have h:Y0 Tryz.prog N ⟨dst,.fieldAddr 58 x 1,ty,pos,af,g⟩ fr S _:=Y0.fieldAddr Tryz.underlying58 rfl (fun _=>by kernel_rfl) hx
  exact h
theorem Y0.fa60_0 {N:Nat} {dst:Option Nat} {ty:TypeId} {pos:String} {af:Array Edge} {g:Option (Nat×Bool)} {fr:Fr} {S:Asrt} {x:Operand} {b off:Nat} (hx:fr.ev x=some (.pointer (some ⟨b,off,none⟩))):Y0 Tryz.prog N ⟨dst,.fieldAddr 60 x 0,ty,pos,af,g⟩ fr S (.pointer (some ⟨b,off + 0,none⟩)):=by
  have h:Y0 Tryz.prog N ⟨dst,.fieldAddr 60 x 0,ty,pos,af,g⟩ fr S _:=Y0.fieldAddr Tryz.underlying60 rfl (fun _=>by kernel_rfl) hx
  exact h
theorem Y0.fa60_1 {N:Nat} {dst:Option Nat} {ty:TypeId} {pos:String} {af:Array Edge} {g:Option (Nat×Bool)} {fr:Fr} {S:Asrt} {x:Operand} {b off:Nat} (hx:fr.ev x=some (.pointer (some ⟨b,off,none⟩))):Y0 Tryz.prog N ⟨dst,.fieldAddr 60 x 1,ty,pos,af,g⟩ fr S (.pointer (some ⟨b,off + 2,none⟩)):=by
  have h:Y0 Tryz.prog N ⟨dst,.fieldAddr 60 x 1,ty,pos,af,g⟩ fr S _:=Y0.fieldAddr Tryz.underlying60 rfl (fun _=>by kernel_rfl) hx
  exact h
theorem Y0.fa68_0 {N:Nat} {dst:Option Nat} {ty:TypeId} {pos:String} {af:Array Edge} {g:Option (Nat×Bool)} {fr:Fr} {S:Asrt} {x:Operand} {b off:Nat} (hx:fr.ev x=some (.pointer (some ⟨b,off,none⟩))):Y0 Tryz.prog N ⟨dst,.fieldAddr 68 x 0,ty,pos,af,g⟩ fr S (.pointer (some ⟨b,off + 0,none⟩)):=by
  have h:Y0 Tryz.prog N ⟨dst,.fieldAddr 68 x 0,ty,pos,af,g⟩ fr S _:=Y0.fieldAddr Tryz.underlying68 rfl (fun _=>by kernel_rfl) hx
  exact h
theorem Y0.fa68_1 {N:Nat} {dst:Option Nat} {ty:TypeId} {pos:String} {af:Array Edge} {g:Option (Nat×Bool)} {fr:Fr} {S:Asrt} {x:Operand} {b off:Nat} (hx:fr.ev x=some (.pointer (some ⟨b,off,none⟩))):Y0 Tryz.prog N ⟨dst,.fieldAddr 68 x 1,ty,pos,af,g⟩ fr S (.pointer (some ⟨b,off + 1,none⟩)):=by
  have h:Y0 Tryz.prog N ⟨dst,.fieldAddr 68 x 1,ty,pos,af,g⟩ fr S _:=Y0.fieldAddr Tryz.underlying68 rfl (fun _=>by kernel_rfl) hx
  exact h
theorem Y0.fa76_0 {N:Nat} {dst:Option Nat} {ty:TypeId} {pos:String} {af:Array Edge} {g:Option (Nat×Bool)} {fr:Fr} {S:Asrt} {x:Operand} {b off:Nat} (hx:fr.ev x=some (.pointer (some ⟨b,off,none⟩))):Y0 Tryz.prog N ⟨dst,.fieldAddr 76 x 0,ty,pos,af,g⟩ fr S (.pointer (some ⟨b,off + 0,none⟩)):=by
  have h:Y0 Tryz.prog N ⟨dst,.fieldAddr 76 x 0,ty,pos,af,g⟩ fr S _:=Y0.fieldAddr Tryz.underlying76 rfl (fun _=>by kernel_rfl) hx
  exact h
theorem Y0.fa76_1 {N:Nat} {dst:Option Nat} {ty:TypeId} {pos:String} {af:Array Edge} {g:Option (Nat×Bool)} {fr:Fr} {S:Asrt} {x:Operand} {b off:Nat} (hx:fr.ev x=some (.pointer (some ⟨b,off,none⟩))):Y0 Tryz.prog N ⟨dst,.fieldAddr 76 x 1,ty,pos,af,g⟩ fr S (.pointer (some ⟨b,off + 1,none⟩)):=by
  have h:Y0 Tryz.prog N ⟨dst,.fieldAddr 76 x 1,ty,pos,af,g⟩ fr S _:=Y0.fieldAddr Tryz.underlying76 rfl (fun _=>by kernel_rfl) hx
  exact h
theorem Y0.fa76_2 {N:Nat} {dst:Option Nat} {ty:TypeId} {pos:String} {af:Array Edge} {g:Option (Nat×Bool)} {fr:Fr} {S:Asrt} {x:Operand} {b off:Nat} (hx:fr.ev x=some (.pointer (some ⟨b,off,none⟩))):Y0 Tryz.prog N ⟨dst,.fieldAddr 76 x 2,ty,pos,af,g⟩ fr S (.pointer (some ⟨b,off + 2,none⟩)):=by
  have h:Y0 Tryz.prog N ⟨dst,.fieldAddr 76 x 2,ty,pos,af,g⟩ fr S _:=Y0.fieldAddr Tryz.underlying76 rfl (fun _=>by kernel_rfl) hx
  exact h
theorem Y0.fa76_3 {N:Nat} {dst:Option Nat} {ty:TypeId} {pos:String} {af:Array Edge} {g:Option (Nat×Bool)} {fr:Fr} {S:Asrt} {x:Operand} {b off:Nat} (hx:fr.ev x=some (.pointer (some ⟨b,off,none⟩))):Y0 Tryz.prog N ⟨dst,.fieldAddr 76 x 3,ty,pos,af,g⟩ fr S (.pointer (some ⟨b,off + 3,none⟩)):=by
  have h:Y0 Tryz.prog N ⟨dst,.fieldAddr 76 x 3,ty,pos,af,g⟩ fr S _:=Y0.fieldAddr Tryz.underlying76 rfl (fun _=>by kernel_rfl) hx
  exact h
theorem Y0.fa76_4 {N:Nat} {dst:Option Nat} {ty:TypeId} {pos:String} {af:Array Edge} {g:Option (Nat×Bool)} {fr:Fr} {S:Asrt} {x:Operand} {b off:Nat} (hx:fr.ev x=some (.pointer (some ⟨b,off,none⟩))):Y0 Tryz.prog N ⟨dst,.fieldAddr 76 x 4,ty,pos,af,g⟩ fr S (.pointer (some ⟨b,off + 4,none⟩)):=by
  have h:Y0 Tryz.prog N ⟨dst,.fieldAddr 76 x 4,ty,pos,af,g⟩ fr S _:=Y0.fieldAddr Tryz.underlying76 rfl (fun _=>by kernel_rfl) hx
  exact h
theorem Y0.fa101_0 {N:Nat} {dst:Option Nat} {ty:TypeId} {pos:String} {af:Array Edge} {g:Option (Nat×Bool)} {fr:Fr} {S:Asrt} {x:Operand} {b off:Nat} (hx:fr.ev x=some (.pointer (some ⟨b,off,none⟩))):Y0 Tryz.prog N ⟨dst,.fieldAddr 101 x 0,ty,pos,af,g⟩ fr S (.pointer (some ⟨b,off + 0,none⟩)):=by
  have h:Y0 Tryz.prog N ⟨dst,.fieldAddr 101 x 0,ty,pos,af,g⟩ fr S _:=Y0.fieldAddr Tryz.underlying101 rfl (fun _=>by kernel_rfl) hx
  exact h
theorem Y0.fa101_1 {N:Nat} {dst:Option Nat} {ty:TypeId} {pos:String} {af:Array Edge} {g:Option (Nat×Bool)} {fr:Fr} {S:Asrt} {x:Operand} {b off:Nat} (hx:fr.ev x=some (.pointer (some ⟨b,off,none⟩))):Y0 Tryz.prog N ⟨dst,.fieldAddr 101 x 1,ty,pos,af,g⟩ fr S (.pointer (some ⟨b,off + 4,none⟩)):=by
  have h:Y0 Tryz.prog N ⟨dst,.fieldAddr 101 x 1,ty,pos,af,g⟩ fr S _:=Y0.fieldAddr Tryz.underlying101 rfl (fun _=>by kernel_rfl) hx
  exact h
def ky3:Ky Tryz.prog 3 Int:=Ky.int Tryz.underlying3
def ky9:Ky Tryz.prog 9 ByteArray:=Ky.str Tryz.underlying9
theorem laid99:laidOutB Tryz.prog=true:=by kernel_rfl
def ky99:Ky Tryz.prog 99 (Fin 8→Int):=Ky.arr Tryz.underlying99 Tryz.underlying3 (by kernel_rfl) (by kernel_rfl) (by kernel_rfl) laid99 (of_decide_eq_true (by kernel_rfl)) (by kernel_rfl)
theorem sc3:ScalT Tryz.prog 3:=by unfold ScalT; kernel_rfl
theorem sc4:ScalT Tryz.prog 4:=by unfold ScalT; kernel_rfl
theorem sc5:ScalT Tryz.prog 5:=by unfold ScalT; kernel_rfl
theorem sc9:ScalT Tryz.prog 9:=by unfold ScalT; kernel_rfl
theorem sc23:ScalT Tryz.prog 23:=by unfold ScalT; kernel_rfl
theorem sc24:ScalT Tryz.prog 24:=by unfold ScalT; kernel_rfl
theorem sc29:ScalT Tryz.prog 29:=by unfold ScalT; kernel_rfl
theorem sc30:ScalT Tryz.prog 30:=by unfold ScalT; kernel_rfl
theorem sc31:ScalT Tryz.prog 31:=by unfold ScalT; kernel_rfl
theorem sc38:ScalT Tryz.prog 38:=by unfold ScalT; kernel_rfl
theorem sc42:ScalT Tryz.prog 42:=by unfold ScalT; kernel_rfl
theorem sc56:ScalT Tryz.prog 56:=by unfold ScalT; kernel_rfl
theorem sc131:ScalT Tryz.prog 131:=by unfold ScalT; kernel_rfl
theorem sc156:ScalT Tryz.prog 156:=by unfold ScalT; kernel_rfl
theorem sz3:(Tryz.prog.info? 3).map (·.size) = some 1:=by kernel_rfl
theorem sz4:(Tryz.prog.info? 4).map (·.size) = some 1:=by kernel_rfl
theorem sz9:(Tryz.prog.info? 9).map (·.size) = some 1:=by kernel_rfl
theorem sz23:(Tryz.prog.info? 23).map (·.size) = some 1:=by kernel_rfl
theorem sz30:(Tryz.prog.info? 30).map (·.size) = some 1:=by kernel_rfl
theorem sz31:(Tryz.prog.info? 31).map (·.size) = some 1:=by kernel_rfl
theorem sz33:(Tryz.prog.info? 33).map (·.size) = some 4:=by kernel_rfl
theorem sz38:(Tryz.prog.info? 38).map (·.size) = some 1:=by kernel_rfl
theorem sz40:(Tryz.prog.info? 40).map (·.size) = some 7:=by kernel_rfl
theorem sz50:(Tryz.prog.info? 50).map (·.size) = some 6:=by kernel_rfl
theorem sz58:(Tryz.prog.info? 58).map (·.size) = some 2:=by kernel_rfl
theorem sz60:(Tryz.prog.info? 60).map (·.size) = some 4:=by kernel_rfl
theorem sz68:(Tryz.prog.info? 68).map (·.size) = some 2:=by kernel_rfl
theorem sz76:(Tryz.prog.info? 76).map (·.size) = some 5:=by kernel_rfl
theorem sz83:(Tryz.prog.info? 83).map (·.size) = some 8:=by kernel_rfl
theorem sz99:(Tryz.prog.info? 99).map (·.size) = some 8:=by kernel_rfl
theorem sz101:(Tryz.prog.info? 101).map (·.size) = some 12:=by kernel_rfl
theorem sz112:(Tryz.prog.info? 112).map (·.size) = some 5:=by kernel_rfl
theorem sz131:(Tryz.prog.info? 131).map (·.size) = some 1:=by kernel_rfl
theorem sz156:(Tryz.prog.info? 156).map (·.size) = some 1:=by kernel_rfl
theorem sz176:(Tryz.prog.info? 176).map (·.size) = some 8:=by kernel_rfl
theorem z3:(Tryz.prog.info? 3).map (·.zero) = some (some (.int .i64 0)):=by kernel_rfl
theorem z4:(Tryz.prog.info? 4).map (·.zero) = some (some (.bool false)):=by kernel_rfl
theorem z9:(Tryz.prog.info? 9).map (·.zero) = some (some (.string ByteArray.empty)):=by kernel_rfl
theorem z33:(Tryz.prog.info? 33).map (·.zero) = some (some (.agg ([.slice none 0 0,.slice none 0 0,.slice none 0 0,.int .i64 0]).toArray)):=by kernel_rfl
theorem z40:(Tryz.prog.info? 40).map (·.zero) = some (some (.agg ([.int .i64 0,.string ByteArray.empty,.int .i64 0,.int .i64 0,.int .i64 0,.slice none 0 0,.bool false]).toArray)):=by kernel_rfl
theorem z50:(Tryz.prog.info? 50).map (·.zero) = some (some (.agg ([.slice none 0 0,.slice none 0 0,.slice none 0 0,.int .i64 0,.int .i64 0,.int .i64 0]).toArray)):=by kernel_rfl
theorem z58:(Tryz.prog.info? 58).map (·.zero) = some (some (.agg ([.bool false,.slice none 0 0]).toArray)):=by kernel_rfl
theorem z60:(Tryz.prog.info? 60).map (·.zero) = some (some (.agg ([.bool false,.slice none 0 0,.bool false,.slice none 0 0]).toArray)):=by kernel_rfl
theorem z68:(Tryz.prog.info? 68).map (·.zero) = some (some (.agg ([.int .i64 0,.slice none 0 0]).toArray)):=by kernel_rfl
theorem z83:(Tryz.prog.info? 83).map (·.zero) = some (some (.agg (vecG (Value.int .i64) 8 (fun _=>0)).toArray)):=by kernel_rfl
theorem z99:(Tryz.prog.info? 99).map (·.zero) = some (some (.agg (vecG (Value.int .i64) 8 (fun _=>0)).toArray)):=by kernel_rfl
theorem z101:(Tryz.prog.info? 101).map (·.zero) = some (some (.agg (([.bool false,.slice none 0 0,.bool false,.slice none 0 0]:List Value)++(vecG (Value.int .i64) 8 (fun _=>0))).toArray)):=by kernel_rfl
theorem z176:(Tryz.prog.info? 176).map (·.zero) = some (some (.agg (vecG Value.bool 8 (fun _=>false)).toArray)):=by kernel_rfl
theorem zv4 (w:World):(zeroValue 4).run Tryz.prog w = .ok (.bool false) w:=by kernel_rfl
theorem zv44 (w:World):(zeroValue 44).run Tryz.prog w = .ok .nilFunc w:=by kernel_rfl
end Go.Proofs.YtenaadodnembpaaGreat

namespace Go.EL
open Go Go.EL Go.RowKit Go.Proofs
structure T_ref06_Raw where
  t:(List (Fin 5→Int))
abbrev rp_ref06_Raw:Rp T_ref06_Raw:=Rp.via (Rp.sl (Rp.vec .i8 5)) (fun x=>x.t)
structure T_law33_Odd where
  kind:Int
  at':Int
  to':Int
  id:Int
  name:ByteArray
  p:T_ref06_Raw
  neq:Bool
abbrev rp_law33_Odd:Rp T_law33_Odd:=Rp.via (Rp.pair (Rp.int .i8) (Rp.pair (Rp.int .i8) (Rp.pair (Rp.int .i8) (Rp.pair (Rp.int .i8) (Rp.pair Rp.str (Rp.pair rp_ref06_Raw Rp.bool)))))) (fun x=>(x.kind,x.at',x.to',x.id,x.name,x.p,x.neq))
theorem at_law33_Odd {G:Mem} {K:Nat→Value→Prop} {o:Nat} {x:T_law33_Odd} (h:AtK rp_law33_Odd G K o x):∃ zptp zptc,(∀ (j:Nat) (u:Value),([.int .i8 x.kind,.int .i8 x.at',.int .i8 x.to',.int .i8 x.id,.string x.name,.slice zptp x.p.t.length zptc,.bool x.neq]).toArray[j]? = some u→K (o + j) u)∧SlR (Rp.vec .i8 5) G (.slice zptp x.p.t.length zptc) x.p.t:=by
  obtain ⟨c,h,hc⟩:=h
  obtain ⟨c1,d1,e1,h1,k1⟩:=h
  subst e1
  replace h1:_=([.int .i8 _]:List Value):=h1
  subst h1
  obtain ⟨c3,d3,e3,h3,k3⟩:=k1
  subst e3
  replace h3:_=([.int .i8 _]:List Value):=h3
  subst h3
  obtain ⟨c5,d5,e5,h5,k5⟩:=k3
  subst e5
  replace h5:_=([.int .i8 _]:List Value):=h5
  subst h5
  obtain ⟨c7,d7,e7,h7,k7⟩:=k5
  subst e7
  replace h7:_=([.int .i8 _]:List Value):=h7
  subst h7
  obtain ⟨c9,d9,e9,h9,k9⟩:=k7
  subst e9
  replace h9:_=([.string _]:List Value):=h9
  subst h9
  obtain ⟨c11,d11,e11,h11,k11⟩:=k9
  subst e11
  obtain ⟨v12,e12,s12⟩:=h11
  subst e12
  obtain ⟨p12,q12,f12⟩:=SlR.form s12
  subst f12
  replace k11:_=([.bool _]:List Value):=k11
  subst k11
  exact ⟨p12,q12,fun j u hu=>hc j u (by simpa using hu),s12⟩
structure T_api_Int where
  neg:Bool
  mag:(List Int)
abbrev rp_api_Int:Rp T_api_Int:=Rp.via (Rp.pair Rp.bool (Rp.sl (Rp.int .u32))) (fun x=>(x.neg,x.mag))
theorem at_api_Int {G:Mem} {K:Nat→Value→Prop} {o:Nat} {x:T_api_Int} (h:AtK rp_api_Int G K o x):∃ zmagp zmagc,(∀ (j:Nat) (u:Value),([.bool x.neg,.slice zmagp x.mag.length zmagc]).toArray[j]? = some u→K (o + j) u)∧SlR (Rp.int .u32) G (.slice zmagp x.mag.length zmagc) x.mag:=by
  obtain ⟨c,h,hc⟩:=h
  obtain ⟨c1,d1,e1,h1,k1⟩:=h
  subst e1
  replace h1:_=([.bool _]:List Value):=h1
  subst h1
  obtain ⟨v3,e3,s3⟩:=k1
  subst e3
  obtain ⟨p3,q3,f3⟩:=SlR.form s3
  subst f3
  exact ⟨p3,q3,fun j u hu=>hc j u (by simpa using hu),s3⟩
structure T_api_Rat where
  num:T_api_Int
  den:T_api_Int
abbrev rp_api_Rat:Rp T_api_Rat:=Rp.via (Rp.pair rp_api_Int rp_api_Int) (fun x=>(x.num,x.den))
theorem at_api_Rat {G:Mem} {K:Nat→Value→Prop} {o:Nat} {x:T_api_Rat} (h:AtK rp_api_Rat G K o x):∃ znummagp znummagc zdenmagp zdenmagc,(∀ (j:Nat) (u:Value),([.bool x.num.neg,.slice znummagp x.num.mag.length znummagc,.bool x.den.neg,.slice zdenmagp x.den.mag.length zdenmagc]).toArray[j]? = some u→K (o + j) u)∧SlR (Rp.int .u32) G (.slice znummagp x.num.mag.length znummagc) x.num.mag∧SlR (Rp.int .u32) G (.slice zdenmagp x.den.mag.length zdenmagc) x.den.mag:=by
  obtain ⟨c,h,hc⟩:=h
  obtain ⟨c1,d1,e1,h1,k1⟩:=h
  subst e1
  obtain ⟨c2,d2,e2,h2,k2⟩:=h1
  subst e2
  replace h2:_=([.bool _]:List Value):=h2
  subst h2
  obtain ⟨v4,e4,s4⟩:=k2
  subst e4
  obtain ⟨p4,q4,f4⟩:=SlR.form s4
  subst f4
  obtain ⟨c5,d5,e5,h5,k5⟩:=k1
  subst e5
  replace h5:_=([.bool _]:List Value):=h5
  subst h5
  obtain ⟨v7,e7,s7⟩:=k5
  subst e7
  obtain ⟨p7,q7,f7⟩:=SlR.form s7
  subst f7
  exact ⟨p4,q4,p7,q7,fun j u hu=>hc j u (by simpa using hu),s4,s7⟩
theorem cs_api_Rat {G:Mem} {cs:List Value} {x:T_api_Rat} (h:rp_api_Rat.rep G cs x):∃ znummagp znummagc zdenmagp zdenmagc,cs = [.bool x.num.neg,.slice znummagp x.num.mag.length znummagc,.bool x.den.neg,.slice zdenmagp x.den.mag.length zdenmagc]∧SlR (Rp.int .u32) G (.slice znummagp x.num.mag.length znummagc) x.num.mag∧SlR (Rp.int .u32) G (.slice zdenmagp x.den.mag.length zdenmagc) x.den.mag:=by
  obtain ⟨c1,d1,e1,h1,k1⟩:=h
  subst e1
  obtain ⟨c2,d2,e2,h2,k2⟩:=h1
  subst e2
  replace h2:_=([.bool _]:List Value):=h2
  subst h2
  obtain ⟨v4,e4,s4⟩:=k2
  subst e4
  obtain ⟨p4,q4,f4⟩:=SlR.form s4
  subst f4
  obtain ⟨c5,d5,e5,h5,k5⟩:=k1
  subst e5
  replace h5:_=([.bool _]:List Value):=h5
  subst h5
  obtain ⟨v7,e7,s7⟩:=k5
  subst e7
  obtain ⟨p7,q7,f7⟩:=SlR.form s7
  subst f7
  exact ⟨p4,q4,p7,q7,rfl,s4,s7⟩
structure T_api_Term where
  c:T_api_Rat
  m:(Fin 8→Int)
abbrev rp_api_Term:Rp T_api_Term:=Rp.via (Rp.pair rp_api_Rat (Rp.vec .i64 8)) (fun x=>(x.c,x.m))
theorem at_api_Term {G:Mem} {K:Nat→Value→Prop} {o:Nat} {x:T_api_Term} (h:AtK rp_api_Term G K o x):∃ zcnummagp zcnummagc zcdenmagp zcdenmagc,(∀ (j:Nat) (u:Value),(([.bool x.c.num.neg,.slice zcnummagp x.c.num.mag.length zcnummagc,.bool x.c.den.neg,.slice zcdenmagp x.c.den.mag.length zcdenmagc]:List Value)++(vecG (Value.int .i64) 8 x.m)).toArray[j]? = some u→K (o + j) u)∧SlR (Rp.int .u32) G (.slice zcnummagp x.c.num.mag.length zcnummagc) x.c.num.mag∧SlR (Rp.int .u32) G (.slice zcdenmagp x.c.den.mag.length zcdenmagc) x.c.den.mag:=by
  obtain ⟨c,h,hc⟩:=h
  obtain ⟨c1,d1,e1,h1,k1⟩:=h
  subst e1
  obtain ⟨c2,d2,e2,h2,k2⟩:=h1
  subst e2
  obtain ⟨c3,d3,e3,h3,k3⟩:=h2
  subst e3
  replace h3:_=([.bool _]:List Value):=h3
  subst h3
  obtain ⟨v5,e5,s5⟩:=k3
  subst e5
  obtain ⟨p5,q5,f5⟩:=SlR.form s5
  subst f5
  obtain ⟨c6,d6,e6,h6,k6⟩:=k2
  subst e6
  replace h6:_=([.bool _]:List Value):=h6
  subst h6
  obtain ⟨v8,e8,s8⟩:=k6
  subst e8
  obtain ⟨p8,q8,f8⟩:=SlR.form s8
  subst f8
  replace k1:_=(vecG (Value.int .i64) 8 _:List Value):=k1
  subst k1
  exact ⟨p5,q5,p8,q8,fun j u hu=>hc j u (by simpa using hu),s5,s8⟩
theorem cs_api_Term {G:Mem} {cs:List Value} {x:T_api_Term} (h:rp_api_Term.rep G cs x):∃ zcnummagp zcnummagc zcdenmagp zcdenmagc,cs=([.bool x.c.num.neg,.slice zcnummagp x.c.num.mag.length zcnummagc,.bool x.c.den.neg,.slice zcdenmagp x.c.den.mag.length zcdenmagc]:List Value)++(vecG (Value.int .i64) 8 x.m)∧SlR (Rp.int .u32) G (.slice zcnummagp x.c.num.mag.length zcnummagc) x.c.num.mag∧SlR (Rp.int .u32) G (.slice zcdenmagp x.c.den.mag.length zcdenmagc) x.c.den.mag:=by
  obtain ⟨c1,d1,e1,h1,k1⟩:=h
  subst e1
  obtain ⟨c2,d2,e2,h2,k2⟩:=h1
  subst e2
  obtain ⟨c3,d3,e3,h3,k3⟩:=h2
  subst e3
  replace h3:_=([.bool _]:List Value):=h3
  subst h3
  obtain ⟨v5,e5,s5⟩:=k3
  subst e5
  obtain ⟨p5,q5,f5⟩:=SlR.form s5
  subst f5
  obtain ⟨c6,d6,e6,h6,k6⟩:=k2
  subst e6
  replace h6:_=([.bool _]:List Value):=h6
  subst h6
  obtain ⟨v8,e8,s8⟩:=k6
  subst e8
  obtain ⟨p8,q8,f8⟩:=SlR.form s8
  subst f8
  replace k1:_=(vecG (Value.int .i64) 8 _:List Value):=k1
  subst k1
  exact ⟨p5,q5,p8,q8,rfl,s5,s8⟩
structure T_api_Equation where
  id:Int
  p:(List T_api_Term)
abbrev rp_api_Equation:Rp T_api_Equation:=Rp.via (Rp.pair (Rp.int .i64) (Rp.sl rp_api_Term)) (fun x=>(x.id,x.p))
theorem at_api_Equation {G:Mem} {K:Nat→Value→Prop} {o:Nat} {x:T_api_Equation} (h:AtK rp_api_Equation G K o x):∃ zpp zpc,(∀ (j:Nat) (u:Value),([.int .i64 x.id,.slice zpp x.p.length zpc]).toArray[j]? = some u→K (o + j) u)∧SlR rp_api_Term G (.slice zpp x.p.length zpc) x.p:=by
  obtain ⟨c,h,hc⟩:=h
  obtain ⟨c1,d1,e1,h1,k1⟩:=h
  subst e1
  replace h1:_=([.int .i64 _]:List Value):=h1
  subst h1
  obtain ⟨v3,e3,s3⟩:=k1
  subst e3
  obtain ⟨p3,q3,f3⟩:=SlR.form s3
  subst f3
  exact ⟨p3,q3,fun j u hu=>hc j u (by simpa using hu),s3⟩
structure T_api_System where
  vars:(List ByteArray)
  eqs:(List T_api_Equation)
  neqs:(List T_api_Equation)
  next:Int
abbrev rp_api_System:Rp T_api_System:=Rp.via (Rp.pair (Rp.sl Rp.str) (Rp.pair (Rp.sl rp_api_Equation) (Rp.pair (Rp.sl rp_api_Equation) (Rp.int .i64)))) (fun x=>(x.vars,x.eqs,x.neqs,x.next))
theorem at_api_System {G:Mem} {K:Nat→Value→Prop} {o:Nat} {x:T_api_System} (h:AtK rp_api_System G K o x):∃ zvarsp zvarsc zeqsp zeqsc zneqsp zneqsc,(∀ (j:Nat) (u:Value),([.slice zvarsp x.vars.length zvarsc,.slice zeqsp x.eqs.length zeqsc,.slice zneqsp x.neqs.length zneqsc,.int .i64 x.next]).toArray[j]? = some u→K (o + j) u)∧SlR Rp.str G (.slice zvarsp x.vars.length zvarsc) x.vars∧SlR rp_api_Equation G (.slice zeqsp x.eqs.length zeqsc) x.eqs∧SlR rp_api_Equation G (.slice zneqsp x.neqs.length zneqsc) x.neqs:=by
  obtain ⟨c,h,hc⟩:=h
  obtain ⟨c1,d1,e1,h1,k1⟩:=h
  subst e1
  obtain ⟨v2,e2,s2⟩:=h1
  subst e2
  obtain ⟨p2,q2,f2⟩:=SlR.form s2
  subst f2
  obtain ⟨c3,d3,e3,h3,k3⟩:=k1
  subst e3
  obtain ⟨v4,e4,s4⟩:=h3
  subst e4
  obtain ⟨p4,q4,f4⟩:=SlR.form s4
  subst f4
  obtain ⟨c5,d5,e5,h5,k5⟩:=k3
  subst e5
  obtain ⟨v6,e6,s6⟩:=h5
  subst e6
  obtain ⟨p6,q6,f6⟩:=SlR.form s6
  subst f6
  replace k5:_=([.int .i64 _]:List Value):=k5
  subst k5
  exact ⟨p2,q2,p4,q4,p6,q6,fun j u hu=>hc j u (by simpa using hu),s2,s4,s6⟩
structure T_api_Edit where
  kind:Int
  name:ByteArray
  at':Int
  to':Int
  id:Int
  p:(List T_api_Term)
  neq:Bool
abbrev rp_api_Edit:Rp T_api_Edit:=Rp.via (Rp.pair (Rp.int .i64) (Rp.pair Rp.str (Rp.pair (Rp.int .i64) (Rp.pair (Rp.int .i64) (Rp.pair (Rp.int .i64) (Rp.pair (Rp.sl rp_api_Term) Rp.bool)))))) (fun x=>(x.kind,x.name,x.at',x.to',x.id,x.p,x.neq))
theorem at_api_Edit {G:Mem} {K:Nat→Value→Prop} {o:Nat} {x:T_api_Edit} (h:AtK rp_api_Edit G K o x):∃ zpp zpc,(∀ (j:Nat) (u:Value),([.int .i64 x.kind,.string x.name,.int .i64 x.at',.int .i64 x.to',.int .i64 x.id,.slice zpp x.p.length zpc,.bool x.neq]).toArray[j]? = some u→K (o + j) u)∧SlR rp_api_Term G (.slice zpp x.p.length zpc) x.p:=by
  obtain ⟨c,h,hc⟩:=h
  obtain ⟨c1,d1,e1,h1,k1⟩:=h
  subst e1
  replace h1:_=([.int .i64 _]:List Value):=h1
  subst h1
  obtain ⟨c3,d3,e3,h3,k3⟩:=k1
  subst e3
  replace h3:_=([.string _]:List Value):=h3
  subst h3
  obtain ⟨c5,d5,e5,h5,k5⟩:=k3
  subst e5
  replace h5:_=([.int .i64 _]:List Value):=h5
  subst h5
  obtain ⟨c7,d7,e7,h7,k7⟩:=k5
  subst e7
  replace h7:_=([.int .i64 _]:List Value):=h7
  subst h7
  obtain ⟨c9,d9,e9,h9,k9⟩:=k7
  subst e9
  replace h9:_=([.int .i64 _]:List Value):=h9
  subst h9
  obtain ⟨c11,d11,e11,h11,k11⟩:=k9
  subst e11
  obtain ⟨v12,e12,s12⟩:=h11
  subst e12
  obtain ⟨p12,q12,f12⟩:=SlR.form s12
  subst f12
  replace k11:_=([.bool _]:List Value):=k11
  subst k11
  exact ⟨p12,q12,fun j u hu=>hc j u (by simpa using hu),s12⟩
structure T_ref33_Done where
  s:T_api_System
  n:Int
  e:Int
structure T_ref33_Raw where
  kind:Int
  a:Int
  b:Int
  n:Int
  p:T_ref06_Raw
abbrev rp_ref33_Raw:Rp T_ref33_Raw:=Rp.via (Rp.pair (Rp.int .u8) (Rp.pair (Rp.int .u8) (Rp.pair (Rp.int .u8) (Rp.pair (Rp.int .u8) rp_ref06_Raw)))) (fun x=>(x.kind,x.a,x.b,x.n,x.p))
theorem at_ref33_Raw {G:Mem} {K:Nat→Value→Prop} {o:Nat} {x:T_ref33_Raw} (h:AtK rp_ref33_Raw G K o x):∃ zptp zptc,(∀ (j:Nat) (u:Value),([.int .u8 x.kind,.int .u8 x.a,.int .u8 x.b,.int .u8 x.n,.slice zptp x.p.t.length zptc]).toArray[j]? = some u→K (o + j) u)∧SlR (Rp.vec .i8 5) G (.slice zptp x.p.t.length zptc) x.p.t:=by
  obtain ⟨c,h,hc⟩:=h
  obtain ⟨c1,d1,e1,h1,k1⟩:=h
  subst e1
  replace h1:_=([.int .u8 _]:List Value):=h1
  subst h1
  obtain ⟨c3,d3,e3,h3,k3⟩:=k1
  subst e3
  replace h3:_=([.int .u8 _]:List Value):=h3
  subst h3
  obtain ⟨c5,d5,e5,h5,k5⟩:=k3
  subst e5
  replace h5:_=([.int .u8 _]:List Value):=h5
  subst h5
  obtain ⟨c7,d7,e7,h7,k7⟩:=k5
  subst e7
  replace h7:_=([.int .u8 _]:List Value):=h7
  subst h7
  obtain ⟨v9,e9,s9⟩:=k7
  subst e9
  obtain ⟨p9,q9,f9⟩:=SlR.form s9
  subst f9
  exact ⟨p9,q9,fun j u hu=>hc j u (by simpa using hu),s9⟩
end Go.EL

namespace Go.EL
open Go Go.RowKit
abbrev M:=Fin 8→Int
def cmpFrom (a b:M):Nat→Nat→Int
  | 0,_=>0
  | n + 1,k=>if h:k < 8 then (if a ⟨k,h⟩ < b ⟨k,h⟩ then -1 else if b ⟨k,h⟩ < a ⟨k,h⟩ then 1 else cmpFrom a b n (k + 1)) else 0
def cmpM (a b:M):Int:=cmpFrom a b 8 0
theorem cmpFrom_eq (a b:M):∀ (k:Nat),k≤8→(∀ i:Fin 8,i.val < k→a i=b i)→cmpM a b=cmpFrom a b (8 - k) k
  | 0,_,_=>rfl
  | k + 1,hk,h=>by
    rw [cmpFrom_eq a b k (by omega) (fun i hi=>h i (by omega))]
    have hl:k < 8:=by omega
    have e:=h ⟨k,hl⟩ (by simp)
    rw [show 8 - k=(8 - (k + 1)) + 1 by omega]
    simp [cmpFrom,hl,e]
theorem cmpM_lt (a b:M) {k:Nat} (hk:k < 8) (h:∀ i:Fin 8,i.val < k→a i=b i) (hlt:a ⟨k,hk⟩ < b ⟨k,hk⟩):cmpM a b = -1:=by
  rw [cmpFrom_eq a b k (by omega) h,show 8 - k=(7 - k) + 1 by omega]
  simp [cmpFrom,hk,hlt]
theorem cmpM_gt (a b:M) {k:Nat} (hk:k < 8) (h:∀ i:Fin 8,i.val < k→a i=b i) (hlt:b ⟨k,hk⟩ < a ⟨k,hk⟩):cmpM a b=1:=by
  rw [cmpFrom_eq a b k (by omega) h,show 8 - k=(7 - k) + 1 by omega]
  have:¬ a ⟨k,hk⟩ < b ⟨k,hk⟩:=by omega
  simp [cmpFrom,hk,hlt,this]
theorem cmpM_eq (a b:M) (h:∀ i,a i=b i):cmpM a b=0:=by
  rw [cmpFrom_eq a b 8 (by omega) (fun i _=>h i)]
  rfl
theorem cmpFrom_neg (a b:M):∀ n k,cmpFrom b a n k = - cmpFrom a b n k
  | 0,_=>by simp [cmpFrom]
  | n + 1,k=>by
    simp only [cmpFrom]
    split
    · rename_i h
      rw [cmpFrom_neg a b n (k + 1)]
      split <;> split <;> first|omega|(split <;> omega)
    · rfl
theorem cmpFrom_trans (a b c:M):∀ n k,cmpFrom a b n k≤0→cmpFrom b c n k≤0→cmpFrom a c n k≤0∧((cmpFrom a b n k < 0∨cmpFrom b c n k < 0)→cmpFrom a c n k < 0)
  | 0,_=>by simp [cmpFrom]
  | n + 1,k=>by
    have ih:=cmpFrom_trans a b c n (k + 1)
    simp only [cmpFrom]
    by_cases h:k < 8
    · simp only [dif_pos h]
      by_cases h1:a ⟨k,h⟩ < b ⟨k,h⟩
      · by_cases h2:b ⟨k,h⟩ < c ⟨k,h⟩
        · simp [h1,h2,show a ⟨k,h⟩ < c ⟨k,h⟩ by omega]
        · by_cases h3:c ⟨k,h⟩ < b ⟨k,h⟩
          · simp [h2,h3]
          · simp [show a ⟨k,h⟩ < c ⟨k,h⟩ by omega]
      · by_cases h1':b ⟨k,h⟩ < a ⟨k,h⟩
        · simp [h1,h1']
        · by_cases h2:b ⟨k,h⟩ < c ⟨k,h⟩
          · simp [show a ⟨k,h⟩ < c ⟨k,h⟩ by omega]
          · by_cases h3:c ⟨k,h⟩ < b ⟨k,h⟩
            · simp [h2,h3]
            · simp only [h1,h1',h2,h3,if_false,show ¬ a ⟨k,h⟩ < c ⟨k,h⟩ by omega,show ¬ c ⟨k,h⟩ < a ⟨k,h⟩ by omega]
              exact ih
    · simp [h]
theorem cmpFrom_zero (a b:M):∀ n k,n + k=8→cmpFrom a b n k=0→∀ i:Fin 8,k≤i.val→a i=b i
  | 0,k,e,_,i,hi=>by have:=i.isLt; omega
  | n + 1,k,e,hz,i,hi=>by
    have hk:k < 8:=by omega
    simp only [cmpFrom,dif_pos hk] at hz
    by_cases h1:a ⟨k,hk⟩ < b ⟨k,hk⟩
    · simp [h1] at hz
    · by_cases h2:b ⟨k,hk⟩ < a ⟨k,hk⟩
      · simp [h1,h2] at hz
      · simp only [h1,h2,if_false] at hz
        by_cases hik:i.val=k
        · have:i = ⟨k,hk⟩:=Fin.ext hik
          subst this; omega
        · exact cmpFrom_zero a b n (k + 1) (by omega) hz i (by omega)
theorem cmpM_neg (a b:M):cmpM b a = - cmpM a b:=cmpFrom_neg a b 8 0
theorem cmpM_le_trans {a b c:M} (h1:cmpM a b≤0) (h2:cmpM b c≤0):cmpM a c≤0:=(cmpFrom_trans a b c 8 0 h1 h2).1
theorem cmpM_lt_trans {a b c:M} (h1:cmpM a b≤0) (h2:cmpM b c≤0) (h:cmpM a b < 0∨cmpM b c < 0):cmpM a c < 0:=(cmpFrom_trans a b c 8 0 h1 h2).2 h
theorem cmpM_self (a:M):cmpM a a=0:=cmpM_eq a a fun _=>rfl
theorem cmpM_zero {a b:M} (h:cmpM a b=0):a=b:=funext fun i=>cmpFrom_zero a b 8 0 rfl h i (Nat.zero_le _)
theorem swoR:Go.Sort.SWO (Go.Proofs.ltOf fun a b=>cmpM b a) where
  irrefl x:=by simp [Go.Proofs.ltOf,cmpM_self]
  trans x y z h1 h2:=by
    simp only [Go.Proofs.ltOf,decide_eq_true_eq] at *
    exact cmpM_lt_trans (a:=z) (b:=y) (c:=x) (by omega) (by omega) (.inl h2)
  ntrans x y z h1 h2:=by
    simp only [Go.Proofs.ltOf,decide_eq_false_iff_not] at *
    have a:=cmpM_neg x y
    have b:=cmpM_neg y z
    have c:=cmpM_neg x z
    have:=cmpM_le_trans (a:=x) (b:=y) (c:=z) (by omega) (by omega)
    omega
end Go.EL

namespace Go.EL
open Go Go.EL Go.RowKit Go.Proofs
def str_35593b7c:ByteArray:=⟨#[65,98,99]⟩
def str_d33def0e:ByteArray:=⟨#[117,95,49]⟩
def str_f1290186:ByteArray:=⟨#[119]⟩
def str_fbade9e3:ByteArray:=⟨#[122]⟩
def str_41529076:ByteArray:=⟨#[121]⟩
def str_9dd4e461:ByteArray:=⟨#[120]⟩
def str_633d862b:ByteArray:=⟨#[0,1,2,2,3,3,3,3,4,4,4,4,4,4,4,4,5,5,5,5,5,5,5,5,5,5,5,5,5,5,5,5,6,6,6,6,6,6,6,6,6,6,6,6,6,6,6,6,6,6,6,6,6,6,6,6,6,6,6,6,6,6,6,6,7,7,7,7,7,7,7,7,7,7,7,7,7,7,7,7,7,7,7,7,7,7,7,7,7,7,7,7,7,7,7,7,7,7,7,7,7,7,7,7,7,7,7,7,7,7,7,7,7,7,7,7,7,7,7,7,7,7,7,7,7,7,7,7,8,8,8,8,8,8,8,8,8,8,8,8,8,8,8,8,8,8,8,8,8,8,8,8,8,8,8,8,8,8,8,8,8,8,8,8,8,8,8,8,8,8,8,8,8,8,8,8,8,8,8,8,8,8,8,8,8,8,8,8,8,8,8,8,8,8,8,8,8,8,8,8,8,8,8,8,8,8,8,8,8,8,8,8,8,8,8,8,8,8,8,8,8,8,8,8,8,8,8,8,8,8,8,8,8,8,8,8,8,8,8,8,8,8,8,8,8,8,8,8,8,8,8,8,8,8,8,8]⟩
def slices_Insert_string_string (a0:(List ByteArray)) (a1:Int) (a2:(List ByteArray)):Comp (List ByteArray):=
  Comp.chk ((0≤a1∧a1≤(a0.length:Int))∧a2.length=1∧(a0.length:Int) < 1000000) (Comp.ret (a0.take a1.toNat++a2++a0.drop a1.toNat))
def slices_Delete_string_string (a0:(List ByteArray)) (a1 a2:Int):Comp (List ByteArray):=
  Comp.chk (0≤a1∧a1≤a2∧a2≤(a0.length:Int)∧(a0.length:Int) < 1000000) (Comp.ret (a0.take a1.toNat++a0.drop a2.toNat))
def slices_Grow_api_Equation_api_Equation_nil (k:Int):Comp (List T_api_Equation):=Comp.chk (0≤k∧k≤1000000) (Comp.ret [])
def slices_Insert_api_Equation_api_Equation (a0:(List T_api_Equation)) (a1:Int) (a2:(List T_api_Equation)):Comp (List T_api_Equation):=
  Comp.chk ((0≤a1∧a1≤(a0.length:Int))∧a2.length=1∧(a0.length:Int) < 1000000) (Comp.ret (a0.take a1.toNat++a2++a0.drop a1.toNat))
def edit_kinds_D:List (Int×Nat):=[(1,64),(2,65),(3,66),(4,67),(5,68),(6,69),(7,70),(8,71)]
def monomial_Cmp_k1 (a1:(Fin 8→Int)) (b1:(Fin 8→Int)) (i1:Int):Comp Int:=
  Comp.chk (0≤i1∧i1 < 8) (Comp.chk (0≤i1∧i1 < 8) (if (getF a1 i1) < (getF b1 i1) then (Comp.ret (-1)) else (Comp.ret 1)))
def monomial_Cmp_L2 (a1:(Fin 8→Int)) (b1:(Fin 8→Int)):Int→Comp Int:=
  Comp.loop fun gs=>match gs with|i2=>Comp.chk (0≤i2∧i2 < 8) (Comp.chk (0≤i2∧i2 < 8) (if (getF a1 i2) = (getF b1 i2) then (Comp.ret (.inl (IntKind.i64.wrap (i2 + 1)))) else (Comp.ret (.inr i2))))
def monomial_Cmp (a1:(Fin 8→Int)) (b1:(Fin 8→Int)):Comp Int:=
  if a1=b1 then (Comp.ret 0) else (Comp.next (monomial_Cmp_L2 a1 b1 0) fun ov=>match ov with|i1=>monomial_Cmp_k1 a1 b1 i1)
def polynomial_sorted_c1 (a1:T_api_Term) (b1:T_api_Term):Comp Int:=
  Comp.bind (monomial_Cmp b1.m a1.m) fun yv1=>Comp.ret yv1
def slices_pdqsortCmpFunc_api_Term_polynomial_sorted_c1 (l:List T_api_Term) (a b lim:Int):Comp (List T_api_Term):=
  Comp.chk (a=0∧b=(l.length:Int)∧(0≤lim∧lim < 1000000)∧l.length≤1000000) (Comp.any (fun ys=>ys.Perm l∧ys.Pairwise (fun x y=>¬ cmpM x.m y.m < 0)) Comp.ret)
def R01_trim_k1 (l1:(List Int)) (n1:Int):Comp (List Int):=
  Comp.chk (0≤(0:Int)∧(0:Int)≤n1∧n1≤(l1.length:Int)) (Comp.ret ((l1.take n1.toNat).drop (0:Int).toNat))
def R01_trim_L2 (l1:(List Int)):Int→Comp Int:=
  Comp.loop fun gs=>match gs with|n2=>if 0 < n2 then (Comp.at' l1 (IntKind.i64.wrap (n2 - 1)) fun x1=>if x1=0 then (Comp.ret (.inl (IntKind.i64.wrap (n2 - 1)))) else (Comp.ret (.inr n2))) else (Comp.ret (.inr n2))
def R01_trim (l1:(List Int)):Comp (List Int):=
  Comp.next (R01_trim_L2 l1 (l1.length:Int)) fun ov=>match ov with|n1=>R01_trim_k1 l1 n1
def R01_words (n1:Int):Comp (List Int):=
  Comp.bind (R01_trim [IntKind.u32.wrap (Int.tmod n1 4294967296),IntKind.u32.wrap (IntKind.u64.wrap (Int.tdiv n1 4294967296))]) fun yv1=>Comp.ret yv1
def R01_made (neg1:Bool) (l1:(List Int)):Comp T_api_Int:=
  Comp.bind (R01_trim l1) fun yv1=>if neg1=true then (Comp.ret (T_api_Int.mk (decide (0 < (yv1.length:Int))) yv1)) else (Comp.ret (T_api_Int.mk false yv1))
def R01_Of (n1:Int):Comp T_api_Int:=
  if n1 < 0 then (Comp.bind (R01_words (IntKind.u64.wrap ((IntKind.u64.wrap (IntKind.i64.wrap (0 - (IntKind.i64.wrap (n1 + 1))))) + 1))) fun yv1=>Comp.bind (R01_made true yv1) fun yv2=>Comp.ret yv2) else (Comp.bind (R01_words (IntKind.u64.wrap n1)) fun yv3=>Comp.bind (R01_made false yv3) fun yv4=>Comp.ret yv4)
def R02_Whole (n1:Int):Comp T_api_Rat:=
  Comp.bind (R01_Of n1) fun yv1=>Comp.bind (R01_Of 1) fun yv2=>Comp.ret (T_api_Rat.mk yv1 yv2)
def R06_Var (i1:Int):Comp ((List T_api_Term)×Int):=
  if i1 < 0 then (Comp.ret ([],1)) else (if 8≤i1 then Comp.fail else (Comp.chk (0≤i1∧i1 < 8) (Comp.bind (R02_Whole 1) fun yv1=>Comp.ret ([(T_api_Term.mk yv1 (setF (fun _=>0) i1.toNat 1))],0))))
def R06_X (i1:Int):Comp (List T_api_Term):=
  Comp.bind (R06_Var i1) fun yv1=>Comp.ret yv1.1
def R01_Sign (a1:T_api_Int):Comp Int:=
  if a1.neg=true then (Comp.ret (-1)) else (Comp.ret (if 1 < (a1.mag.length:Int) then 1 else (a1.mag.length:Int)))
def R02_Sign (a1:T_api_Rat):Comp Int:=
  Comp.bind (R01_Sign a1.num) fun yv1=>Comp.ret yv1
def R04_Valid_k1:Comp Bool:=
  Comp.ret true
def R04_Valid_L2 (m1:(Fin 8→Int)):Int→Comp (Bool⊕Unit):=
  Comp.loop fun gs=>match gs with|i1=>if i1 < 8 then (Comp.chk (0≤i1∧i1 < 8) (if (getF m1 i1) < 0 then (Comp.ret (.inr (.inl false))) else (Comp.chk (0≤i1∧i1 < 8) (if 65535 < (getF m1 i1) then Comp.fail else (Comp.ret (.inl (IntKind.i64.wrap (i1 + 1)))))))) else (Comp.ret (.inr (.inr ())))
def R04_Valid (m1:(Fin 8→Int)):Comp Bool:=
  Comp.next (R04_Valid_L2 m1 0) fun ov=>match ov with | .inl rv1=>Comp.ret rv1 | .inr ()=>R04_Valid_k1
def R04_Mul_k1 (bx1:(Fin 8→Int)):Comp ((Fin 8→Int)×Int):=
  Comp.bind (R04_Valid bx1) fun yv1=>if (!yv1) = true then Comp.fail else (Comp.ret (bx1,0))
def R04_Mul_L2 (b1:(Fin 8→Int)):(Int×(Fin 8→Int))→Comp (Fin 8→Int):=
  Comp.loop fun gs=>match gs with|(i1,bx2)=>if i1 < 8 then (Comp.chk (0≤i1∧i1 < 8) (Comp.chk (0≤i1∧i1 < 8) (Comp.chk (0≤i1∧i1 < 8) (Comp.ret (.inl (IntKind.i64.wrap (i1 + 1),setF bx2 i1.toNat (IntKind.i64.wrap ((getF bx2 i1) + (getF b1 i1))))))))) else (Comp.ret (.inr bx2))
def R04_Mul (a1:(Fin 8→Int)) (b1:(Fin 8→Int)):Comp ((Fin 8→Int)×Int):=
  Comp.next (R04_Mul_L2 b1 (0,a1)) fun ov=>match ov with|bx1=>R04_Mul_k1 bx1
def R01_times_k1 (v5_1:(List Int)):Comp (List Int):=
  Comp.bind (R01_trim v5_1) fun yv1=>Comp.ret yv1
def R01_times_k3 (a1_1:(List Int)) (v6_1:Int) (v5_3:(List Int)) (v7_1:Int):Comp (((List Int)×Int)⊕(List Int)):=
  Comp.at' v5_3 (IntKind.i64.wrap (v6_1 + (a1_1.length:Int))) fun x1=>Comp.ret (.inl ((v5_3.set (IntKind.i64.wrap (v6_1 + (a1_1.length:Int))).toNat (IntKind.u32.wrap v7_1)),IntKind.i64.wrap (v6_1 + 1)))
def R01_times_L4 (a0_1:(List Int)) (a1_1:(List Int)) (v6_1:Int):((List Int)×Int×Int)→Comp (((List Int)×Int)):=
  Comp.loop fun gs=>match gs with|(v5_4,v7_2,v8_1)=>if v8_1 < (a1_1.length:Int) then (Comp.at' a0_1 v6_1 fun x2=>Comp.at' a1_1 v8_1 fun x3=>Comp.at' v5_4 (IntKind.i64.wrap (v6_1 + v8_1)) fun x4=>Comp.at' v5_4 (IntKind.i64.wrap (v6_1 + v8_1)) fun x5=>Comp.ret (.inl ((v5_4.set (IntKind.i64.wrap (v6_1 + v8_1)).toNat (IntKind.u32.wrap (Int.tmod (IntKind.u64.wrap ((IntKind.u64.wrap ((IntKind.u64.wrap ((IntKind.u64.wrap x2) * (IntKind.u64.wrap x3))) + (IntKind.u64.wrap x4))) + v7_2)) 4294967296))),IntKind.u64.wrap (Int.tdiv (IntKind.u64.wrap ((IntKind.u64.wrap ((IntKind.u64.wrap ((IntKind.u64.wrap x2) * (IntKind.u64.wrap x3))) + (IntKind.u64.wrap x4))) + v7_2)) 4294967296),IntKind.i64.wrap (v8_1 + 1)))) else (Comp.ret (.inr (v5_4,v7_2)))
def R01_times_L2 (a0_1:(List Int)) (a1_1:(List Int)):((List Int)×Int)→Comp (List Int):=
  Comp.loop fun gs=>match gs with|(v5_2,v6_1)=>if v6_1 < (a0_1.length:Int) then (Comp.next (R01_times_L4 a0_1 a1_1 v6_1 (v5_2,0,0)) fun ov=>match ov with|(v5_3,v7_1)=>R01_times_k3 a1_1 v6_1 v5_3 v7_1) else (Comp.ret (.inr v5_2))
def R01_times (a0_1:(List Int)) (a1_1:(List Int)):Comp (List Int):=
  Comp.chk (0≤IntKind.i64.wrap ((a0_1.length:Int) + (a1_1.length:Int))∧(IntKind.i64.wrap ((a0_1.length:Int) + (a1_1.length:Int)))≤1000000) (Comp.next (R01_times_L2 a0_1 a1_1 ((List.replicate (IntKind.i64.wrap ((a0_1.length:Int) + (a1_1.length:Int))).toNat 0),0)) fun ov=>match ov with|v5_1=>R01_times_k1 v5_1)
def R01_Mul (a1:T_api_Int) (b1:T_api_Int):Comp T_api_Int:=
  Comp.bind (R01_times a1.mag b1.mag) fun yv1=>Comp.bind (R01_made (decide (¬ a1.neg=b1.neg)) yv1) fun yv2=>Comp.ret yv2
def R01_word (l1:(List Int)) (i1:Int):Comp Int:=
  if i1 < (l1.length:Int) then (Comp.at' l1 i1 fun x1=>Comp.ret (IntKind.u64.wrap x1)) else (Comp.ret 0)
def R01_number (l1:(List Int)):Comp Int:=
  Comp.bind (R01_word l1 1) fun yv1=>Comp.bind (R01_word l1 0) fun yv2=>Comp.ret (IntKind.u64.wrap ((IntKind.u64.wrap (yv1 * 4294967296)) + yv2))
def R01_euclid_k1 (a2:Int):Comp Int:=
  Comp.ret a2
def R01_euclid_L2:(Int×Int)→Comp Int:=
  Comp.loop fun gs=>match gs with|(a3,b2)=>if 0 < b2 then (Comp.chk (b2≠0) (Comp.ret (.inl (b2,Int.tmod a3 b2)))) else (Comp.ret (.inr a3))
def R01_euclid (a1:Int) (b1:Int):Comp Int:=
  Comp.next (R01_euclid_L2 (a1,b1)) fun ov=>match ov with|a2=>R01_euclid_k1 a2
def R01_compared_k1:Comp Int:=
  Comp.ret 0
def R01_compared_L2 (a1:(List Int)) (b1:(List Int)):Int→Comp (Int⊕Unit):=
  Comp.loop fun gs=>match gs with|i1=>if 0≤i1 then (Comp.at' a1 i1 fun x1=>Comp.at' b1 i1 fun x2=>if x1 < x2 then (Comp.ret (.inr (.inl (-1)))) else (Comp.at' a1 i1 fun x3=>Comp.at' b1 i1 fun x4=>if x4 < x3 then (Comp.ret (.inr (.inl 1))) else (Comp.ret (.inl (IntKind.i64.wrap (i1 - 1)))))) else (Comp.ret (.inr (.inr ())))
def R01_compared (a1:(List Int)) (b1:(List Int)):Comp Int:=
  if (a1.length:Int) < (b1.length:Int) then (Comp.ret (-1)) else (if (b1.length:Int) < (a1.length:Int) then (Comp.ret 1) else (Comp.next (R01_compared_L2 a1 b1 (IntKind.i64.wrap ((a1.length:Int) - 1))) fun ov=>match ov with | .inl rv1=>Comp.ret rv1 | .inr ()=>R01_compared_k1))
def R01_shortly_k1 (out1:(List Int)) (rv1:Int):Comp ((List Int)×Int):=
  Comp.bind (R01_trim out1) fun yv1=>Comp.ret (yv1,rv1)
def R01_shortly_L2 (a1:(List Int)) (d1:Int):((List Int)×Int×Int)→Comp (((List Int)×Int)):=
  Comp.loop fun gs=>match gs with|(out2,rv2,i1)=>if 0≤i1 then (Comp.at' a1 i1 fun x1=>Comp.chk (d1≠0) (Comp.at' out2 i1 fun x2=>Comp.chk (d1≠0) (Comp.ret (.inl ((out2.set i1.toNat (IntKind.u32.wrap (IntKind.u64.wrap (Int.tdiv (IntKind.u64.wrap ((IntKind.u64.wrap (rv2 * 4294967296)) + (IntKind.u64.wrap x1))) d1)))),Int.tmod (IntKind.u64.wrap ((IntKind.u64.wrap (rv2 * 4294967296)) + (IntKind.u64.wrap x1))) d1,IntKind.i64.wrap (i1 - 1)))))) else (Comp.ret (.inr (out2,rv2)))
def R01_shortly (a1:(List Int)) (d1:Int):Comp ((List Int)×Int):=
  Comp.chk (0≤(a1.length:Int)∧(a1.length:Int)≤1000000) (Comp.next (R01_shortly_L2 a1 d1 ((List.replicate (a1.length:Int).toNat 0),0,IntKind.i64.wrap ((a1.length:Int) - 1))) fun ov=>match ov with|(out1,rv1)=>R01_shortly_k1 out1 rv1)
def R01_divided (a0_1:(List Int)) (a1_1:(List Int)):Comp ((List Int)×(List Int)):=
  Comp.bind (R01_compared a0_1 a1_1) fun yv1=>if yv1 < 0 then (Comp.ret ([],a0_1)) else (if (a1_1.length:Int) = 1 then (Comp.at' a1_1 0 fun x1=>Comp.bind (R01_shortly a0_1 (IntKind.u64.wrap x1)) fun yv2=>Comp.bind (R01_words yv2.2) fun yv3=>Comp.ret (yv2.1,yv3)) else Comp.fail)
def R01_common_k1 (a2:(List Int)):Comp (List Int):=
  Comp.ret a2
def R01_common_k3 (a3:(List Int)) (b2:(List Int)) (v17_1:Bool):Comp (((List Int)×(List Int))⊕((List Int)⊕(List Int))):=
  if v17_1=true then (Comp.bind (R01_number a3) fun yv1=>Comp.bind (R01_number b2) fun yv2=>Comp.bind (R01_euclid yv1 yv2) fun yv3=>Comp.bind (R01_words yv3) fun yv4=>Comp.ret (.inr (.inl yv4))) else (Comp.bind (R01_divided a3 b2) fun yv5=>Comp.ret (.inl (b2,yv5.2)))
def R01_common_L2:((List Int)×(List Int))→Comp ((List Int)⊕(List Int)):=
  Comp.loop fun gs=>match gs with|(a3,b2)=>if 0 < (b2.length:Int) then (if (a3.length:Int)≤2 then (R01_common_k3 a3 b2 (decide ((b2.length:Int)≤2))) else (R01_common_k3 a3 b2 false)) else (Comp.ret (.inr (.inr a3)))
def R01_common (a1:(List Int)) (b1:(List Int)):Comp (List Int):=
  Comp.next (R01_common_L2 (a1,b1)) fun ov=>match ov with | .inl rv1=>Comp.ret rv1 | .inr a2=>R01_common_k1 a2
def R01_Gcd (a1:T_api_Int) (b1:T_api_Int):Comp T_api_Int:=
  Comp.bind (R01_common a1.mag b1.mag) fun yv1=>Comp.bind (R01_made false yv1) fun yv2=>Comp.ret yv2
def R01_added_k1 (out1:(List Int)):Comp (List Int):=
  Comp.bind (R01_trim out1) fun yv1=>Comp.ret yv1
def R01_added_L2 (a1:(List Int)) (b1:(List Int)):((List Int)×Int×Int)→Comp (List Int):=
  Comp.loop fun gs=>match gs with|(out2,carry1,i1)=>if i1 < (IntKind.i64.wrap ((if (a1.length:Int) < (b1.length:Int) then (b1.length:Int) else (a1.length:Int)) + 1)) then (Comp.bind (R01_word a1 i1) fun yv2=>Comp.bind (R01_word b1 i1) fun yv3=>Comp.at' out2 i1 fun x1=>Comp.ret (.inl ((out2.set i1.toNat (IntKind.u32.wrap (Int.tmod (IntKind.u64.wrap ((IntKind.u64.wrap (yv2 + yv3)) + carry1)) 4294967296))),IntKind.u64.wrap (Int.tdiv (IntKind.u64.wrap ((IntKind.u64.wrap (yv2 + yv3)) + carry1)) 4294967296),IntKind.i64.wrap (i1 + 1)))) else (Comp.ret (.inr out2))
def R01_added (a1:(List Int)) (b1:(List Int)):Comp (List Int):=
  Comp.chk (0≤IntKind.i64.wrap ((if (a1.length:Int) < (b1.length:Int) then (b1.length:Int) else (a1.length:Int)) + 1)∧(IntKind.i64.wrap ((if (a1.length:Int) < (b1.length:Int) then (b1.length:Int) else (a1.length:Int)) + 1))≤1000000) (Comp.next (R01_added_L2 a1 b1 ((List.replicate (IntKind.i64.wrap ((if (a1.length:Int) < (b1.length:Int) then (b1.length:Int) else (a1.length:Int)) + 1)).toNat 0),0,0)) fun ov=>match ov with|out1=>R01_added_k1 out1)
def R01_taken_k1 (out1:(List Int)):Comp (List Int):=
  Comp.bind (R01_trim out1) fun yv1=>Comp.ret yv1
def R01_taken_L2 (a1:(List Int)) (b1:(List Int)):((List Int)×Int×Int)→Comp (List Int):=
  Comp.loop fun gs=>match gs with|(out2,borrow1,i1)=>if i1 < (a1.length:Int) then (Comp.at' a1 i1 fun x1=>Comp.bind (R01_word b1 i1) fun yv2=>Comp.at' out2 i1 fun x2=>Comp.ret (.inl ((out2.set i1.toNat (IntKind.u32.wrap (Int.tmod (IntKind.u64.wrap ((IntKind.u64.wrap ((IntKind.u64.wrap (4294967296 + (IntKind.u64.wrap x1))) - yv2)) - borrow1)) 4294967296))),IntKind.u64.wrap (1 - (IntKind.u64.wrap (Int.tdiv (IntKind.u64.wrap ((IntKind.u64.wrap ((IntKind.u64.wrap (4294967296 + (IntKind.u64.wrap x1))) - yv2)) - borrow1)) 4294967296))),IntKind.i64.wrap (i1 + 1)))) else (Comp.ret (.inr out2))
def R01_taken (a1:(List Int)) (b1:(List Int)):Comp (List Int):=
  Comp.chk (0≤(a1.length:Int)∧(a1.length:Int)≤1000000) (Comp.next (R01_taken_L2 a1 b1 ((List.replicate (a1.length:Int).toNat 0),0,0)) fun ov=>match ov with|out1=>R01_taken_k1 out1)
def R01_DivMod_k1 (a1:T_api_Int) (b1:T_api_Int) (q1:(List Int)) (rv1:(List Int)):Comp (T_api_Int×T_api_Int×Int):=
  Comp.bind (R01_made (decide (¬ a1.neg=b1.neg)) q1) fun yv2=>Comp.bind (R01_made false rv1) fun yv3=>Comp.ret (yv2,yv3,0)
def R01_DivMod_k2 (a1:T_api_Int) (b1:T_api_Int) (yv1:(List Int)×(List Int)) (v29_1:Bool):Comp (T_api_Int×T_api_Int×Int):=
  if v29_1=true then Comp.fail else (R01_DivMod_k1 a1 b1 yv1.1 yv1.2)
def R01_DivMod (a1:T_api_Int) (b1:T_api_Int):Comp (T_api_Int×T_api_Int×Int):=
  if (b1.mag.length:Int) = 0 then Comp.fail else (Comp.bind (R01_divided a1.mag b1.mag) fun yv1=>if a1.neg=true then (R01_DivMod_k2 a1 b1 yv1 (decide (0 < (yv1.2.length:Int)))) else (R01_DivMod_k2 a1 b1 yv1 false))
def R02_exact (n1:T_api_Int) (g1:T_api_Int):Comp T_api_Int:=
  Comp.bind (R01_DivMod n1 g1) fun yv1=>Comp.ret yv1.1
def R02_lowest_k1 (n1:T_api_Int) (d1:T_api_Int) (bx1:T_api_Int):Comp T_api_Rat:=
  Comp.bind (R02_exact n1 bx1) fun yv2=>Comp.bind (R02_exact d1 bx1) fun yv3=>Comp.ret (T_api_Rat.mk yv2 yv3)
def R02_lowest (n1:T_api_Int) (d1:T_api_Int):Comp T_api_Rat:=
  Comp.bind (R01_Gcd n1 d1) fun yv1=>Comp.bind (R01_Sign d1) fun yv4=>if yv4 < 0 then Comp.fail else (R02_lowest_k1 n1 d1 yv1)
def R02_Mul (a1:T_api_Rat) (b1:T_api_Rat):Comp T_api_Rat:=
  Comp.bind (R01_Mul a1.num b1.num) fun yv1=>Comp.bind (R01_Mul a1.den b1.den) fun yv2=>Comp.bind (R02_lowest yv1 yv2) fun yv3=>Comp.ret yv3
def R06_Times_k1 (out1:(List T_api_Term)):Comp ((List T_api_Term)×Int):=
  Comp.ret (out1,0)
def R06_Times_L2 (c1:T_api_Rat) (m1:(Fin 8→Int)) (p1:(List T_api_Term)):((List T_api_Term)×Int)→Comp (((List T_api_Term)×Int)⊕(List T_api_Term)):=
  Comp.loop fun gs=>match gs with|(out2,i1)=>if i1 < (p1.length:Int) then (Comp.at' p1 i1 fun x1=>Comp.bind (R04_Mul m1 x1.m) fun yv2=>if ¬ yv2.2=0 then Comp.fail else (Comp.at' p1 i1 fun x2=>Comp.bind (R02_Mul c1 x2.c) fun yv3=>Comp.chk ((out2++[(T_api_Term.mk yv3 yv2.1)]).length≤small) (Comp.ret (.inl ((out2++[(T_api_Term.mk yv3 yv2.1)]),IntKind.i64.wrap (i1 + 1)))))) else (Comp.ret (.inr (.inr out2)))
def R06_Times (c1:T_api_Rat) (m1:(Fin 8→Int)) (p1:(List T_api_Term)):Comp ((List T_api_Term)×Int):=
  Comp.bind (R02_Sign c1) fun yv1=>if yv1=0 then (Comp.ret ([],0)) else (Comp.next (R06_Times_L2 c1 m1 p1 ([],0)) fun ov=>match ov with | .inl rv1=>Comp.ret rv1 | .inr out1=>R06_Times_k1 out1)
def R04_Cmp_k1:Comp Int:=
  Comp.ret 0
def R04_Cmp_L2 (a1:(Fin 8→Int)) (b1:(Fin 8→Int)):Int→Comp (Int⊕Unit):=
  Comp.loop fun gs=>match gs with|i1=>if i1 < 8 then (Comp.chk (0≤i1∧i1 < 8) (Comp.chk (0≤i1∧i1 < 8) (if (getF a1 i1) < (getF b1 i1) then (Comp.ret (.inr (.inl (-1)))) else (Comp.chk (0≤i1∧i1 < 8) (Comp.chk (0≤i1∧i1 < 8) (if (getF b1 i1) < (getF a1 i1) then (Comp.ret (.inr (.inl 1))) else (Comp.ret (.inl (IntKind.i64.wrap (i1 + 1)))))))))) else (Comp.ret (.inr (.inr ())))
def R04_Cmp (a1:(Fin 8→Int)) (b1:(Fin 8→Int)):Comp Int:=
  Comp.next (R04_Cmp_L2 a1 b1 0) fun ov=>match ov with | .inl rv1=>Comp.ret rv1 | .inr ()=>R04_Cmp_k1
def R01_Add (a1:T_api_Int) (b1:T_api_Int):Comp T_api_Int:=
  if a1.neg=b1.neg then (Comp.bind (R01_added a1.mag b1.mag) fun yv1=>Comp.bind (R01_made a1.neg yv1) fun yv2=>Comp.ret yv2) else (Comp.bind (R01_compared a1.mag b1.mag) fun yv3=>if yv3 < 0 then (Comp.bind (R01_taken b1.mag a1.mag) fun yv4=>Comp.bind (R01_made b1.neg yv4) fun yv5=>Comp.ret yv5) else (Comp.bind (R01_taken a1.mag b1.mag) fun yv6=>Comp.bind (R01_made a1.neg yv6) fun yv7=>Comp.ret yv7))
def R02_Add (a1:T_api_Rat) (b1:T_api_Rat):Comp T_api_Rat:=
  Comp.bind (R01_Mul a1.num b1.den) fun yv1=>Comp.bind (R01_Mul b1.num a1.den) fun yv2=>Comp.bind (R01_Add yv1 yv2) fun yv3=>Comp.bind (R01_Mul a1.den b1.den) fun yv4=>Comp.bind (R02_lowest yv3 yv4) fun yv5=>Comp.ret yv5
def R06_Add_k1 (v5_1:(List T_api_Term)):Comp (List T_api_Term):=
  Comp.ret v5_1
def R06_Add_k3 (a0_1:(List T_api_Term)) (a1_1:(List T_api_Term)) (v6_2:Int) (v5_4:(List T_api_Term)) (v7_2:Int):Comp (((List T_api_Term)×Int×Int)⊕(List T_api_Term)):=
  Comp.at' a0_1 v6_2 fun x1=>Comp.at' a1_1 v7_2 fun x2=>Comp.bind (R02_Add x1.c x2.c) fun yv1=>Comp.bind (R02_Sign yv1) fun yv2=>if ¬ yv2=0 then (Comp.at' a0_1 v6_2 fun x3=>Comp.chk ((v5_4++[(T_api_Term.mk yv1 x3.m)]).length≤small) (Comp.ret (.inl ((v5_4++[(T_api_Term.mk yv1 x3.m)]),IntKind.i64.wrap (v6_2 + 1),IntKind.i64.wrap (v7_2 + 1))))) else (Comp.ret (.inl (v5_4,IntKind.i64.wrap (v6_2 + 1),IntKind.i64.wrap (v7_2 + 1))))
def R06_Add_k4 (a0_1:(List T_api_Term)) (a1_1:(List T_api_Term)) (v7_1:Int) (v5_3:(List T_api_Term)) (v6_2:Int) (v70_1:Bool):Comp (((List T_api_Term)×Int×Int)⊕(List T_api_Term)):=
  if v70_1=true then (Comp.at' a1_1 v7_1 fun x4=>Comp.chk ((v5_3++[x4]).length≤small) (Comp.ret (.inl ((v5_3++[x4]),v6_2,IntKind.i64.wrap (v7_1 + 1))))) else (R06_Add_k3 a0_1 a1_1 v6_2 v5_3 v7_1)
def R06_Add_k5 (a0_1:(List T_api_Term)) (a1_1:(List T_api_Term)) (v7_1:Int) (v5_3:(List T_api_Term)) (v6_2:Int):Comp (((List T_api_Term)×Int×Int)⊕(List T_api_Term)):=
  if v6_2=(a0_1.length:Int) then (R06_Add_k4 a0_1 a1_1 v7_1 v5_3 v6_2 true) else (Comp.at' a0_1 v6_2 fun x5=>Comp.at' a1_1 v7_1 fun x6=>Comp.bind (R04_Cmp x5.m x6.m) fun yv3=>R06_Add_k4 a0_1 a1_1 v7_1 v5_3 v6_2 (decide (yv3 < 0)))
def R06_Add_k6 (a0_1:(List T_api_Term)) (a1_1:(List T_api_Term)) (v5_2:(List T_api_Term)) (v6_1:Int) (v7_1:Int) (v43_1:Bool):Comp (((List T_api_Term)×Int×Int)⊕(List T_api_Term)):=
  if v43_1=true then (Comp.at' a0_1 v6_1 fun x7=>Comp.chk ((v5_2++[x7]).length≤small) (Comp.ret (.inl ((v5_2++[x7]),IntKind.i64.wrap (v6_1 + 1),v7_1)))) else (R06_Add_k5 a0_1 a1_1 v7_1 v5_2 v6_1)
def R06_Add_k7 (a0_1:(List T_api_Term)) (a1_1:(List T_api_Term)) (v5_2:(List T_api_Term)) (v6_1:Int) (v7_1:Int):Comp (((List T_api_Term)×Int×Int)⊕(List T_api_Term)):=
  if v7_1=(a1_1.length:Int) then (R06_Add_k6 a0_1 a1_1 v5_2 v6_1 v7_1 true) else (if v6_1 < (a0_1.length:Int) then (Comp.at' a0_1 v6_1 fun x8=>Comp.at' a1_1 v7_1 fun x9=>Comp.bind (R04_Cmp x8.m x9.m) fun yv4=>R06_Add_k6 a0_1 a1_1 v5_2 v6_1 v7_1 (decide (0 < yv4))) else (R06_Add_k6 a0_1 a1_1 v5_2 v6_1 v7_1 false))
def R06_Add_L2 (a0_1:(List T_api_Term)) (a1_1:(List T_api_Term)):((List T_api_Term)×Int×Int)→Comp (List T_api_Term):=
  Comp.loop fun gs=>match gs with|(v5_2,v6_1,v7_1)=>if v6_1 < (a0_1.length:Int) then (R06_Add_k7 a0_1 a1_1 v5_2 v6_1 v7_1) else (if v7_1 < (a1_1.length:Int) then (R06_Add_k7 a0_1 a1_1 v5_2 v6_1 v7_1) else (Comp.ret (.inr v5_2)))
def R06_Add (a0_1:(List T_api_Term)) (a1_1:(List T_api_Term)):Comp (List T_api_Term):=
  Comp.next (R06_Add_L2 a0_1 a1_1 ([],0,0)) fun ov=>match ov with|v5_1=>R06_Add_k1 v5_1
def R06_Mul_k1 (out1:(List T_api_Term)):Comp ((List T_api_Term)×Int):=
  Comp.ret (out1,0)
def R06_Mul_L2 (p1:(List T_api_Term)) (q1:(List T_api_Term)):((List T_api_Term)×Int)→Comp (((List T_api_Term)×Int)⊕(List T_api_Term)):=
  Comp.loop fun gs=>match gs with|(out2,i1)=>if i1 < (p1.length:Int) then (Comp.at' p1 i1 fun x1=>Comp.at' p1 i1 fun x2=>Comp.bind (R06_Times x1.c x2.m q1) fun yv1=>if ¬ yv1.2=0 then Comp.fail else (Comp.bind (R06_Add out2 yv1.1) fun yv4=>Comp.ret (.inl (yv4,IntKind.i64.wrap (i1 + 1))))) else (Comp.ret (.inr (.inr out2)))
def R06_Mul (p1:(List T_api_Term)) (q1:(List T_api_Term)):Comp ((List T_api_Term)×Int):=
  Comp.next (R06_Mul_L2 p1 q1 ([],0)) fun ov=>match ov with | .inl rv1=>Comp.ret rv1 | .inr out1=>R06_Mul_k1 out1
def R06_By (p1:(List T_api_Term)) (q1:(List T_api_Term)):Comp (List T_api_Term):=
  Comp.bind (R06_Mul p1 q1) fun yv1=>Comp.ret yv1.1
def R06_Constant (c1:T_api_Rat):Comp (List T_api_Term):=
  Comp.bind (R02_Sign c1) fun yv1=>if yv1=0 then Comp.fail else (Comp.ret [(T_api_Term.mk c1 (fun _=>0))])
def R06_Int (n1:Int):Comp (List T_api_Term):=
  Comp.bind (R02_Whole n1) fun yv1=>Comp.bind (R06_Constant yv1) fun yv2=>Comp.ret yv2
def R06_Scale (c1:T_api_Rat) (p1:(List T_api_Term)):Comp (List T_api_Term):=
  Comp.bind (R06_Times c1 (fun _=>0) p1) fun yv1=>Comp.ret yv1.1
def R06_Sub (p1:(List T_api_Term)) (q1:(List T_api_Term)):Comp (List T_api_Term):=
  Comp.bind (R02_Whole (-1)) fun yv1=>Comp.bind (R06_Scale yv1 q1) fun yv2=>Comp.bind (R06_Add p1 yv2) fun yv3=>Comp.ret yv3
def system_isRest (c1:Int):Comp Bool:=
  if 48≤c1 then (if c1≤57 then (Comp.ret true) else (Comp.ret (decide (c1=95)))) else (Comp.ret (decide (c1=95)))
def system_isName_k1:Comp Bool:=
  Comp.ret true
def system_isName_k3 (s1:ByteArray) (pos1:Nat) (letter1:Bool):Comp (Nat⊕(Bool⊕Unit)):=
  if letter1=true then (Comp.ret (.inl (pos1 + (Utf8.decode s1 pos1).2))) else (if (pos1:Int) = 0 then (Comp.ret (.inr (.inl false))) else (Comp.bind (system_isRest ((Utf8.decode s1 pos1).1:Int)) fun yv1=>if (!yv1) = true then (Comp.ret (.inr (.inl false))) else (Comp.ret (.inl (pos1 + (Utf8.decode s1 pos1).2)))))
def system_isName_L2 (s1:ByteArray):Nat→Comp (Bool⊕Unit):=
  Comp.loop fun gs=>match gs with|pos1=>if pos1 < s1.size then (if 65≤((Utf8.decode s1 pos1).1:Int) then (if ((Utf8.decode s1 pos1).1:Int)≤90 then (system_isName_k3 s1 pos1 true) else (if 97≤((Utf8.decode s1 pos1).1:Int) then (system_isName_k3 s1 pos1 (decide (((Utf8.decode s1 pos1).1:Int)≤122))) else (system_isName_k3 s1 pos1 false))) else (if 97≤((Utf8.decode s1 pos1).1:Int) then (system_isName_k3 s1 pos1 (decide (((Utf8.decode s1 pos1).1:Int)≤122))) else (system_isName_k3 s1 pos1 false))) else (Comp.ret (.inr (.inr ())))
def system_isName_k4 (s1:ByteArray):Comp Bool:=
  Comp.next (system_isName_L2 s1 0) fun ov=>match ov with | .inl rv1=>Comp.ret rv1 | .inr ()=>system_isName_k1
def system_isName (s1:ByteArray):Comp Bool:=
  if (s1.size:Int) < 1 then (Comp.ret false) else (if 12 < (s1.size:Int) then (Comp.ret false) else (system_isName_k4 s1))
def integer_Valid (a1:T_api_Int):Comp Bool:=
  if (a1.mag.length:Int) = 0 then Comp.fail else (Comp.at' a1.mag (IntKind.i64.wrap ((a1.mag.length:Int) - 1)) fun x1=>Comp.ret (decide (¬ x1=0)))
def integer_Sign (a1:T_api_Int):Comp Int:=
  if (a1.mag.length:Int) = 0 then Comp.fail else (if a1.neg=true then (Comp.ret (-1)) else (Comp.ret 1))
def rational_isOne (a1:T_api_Int):Comp Bool:=
  if a1.neg=true then (Comp.ret false) else (if (a1.mag.length:Int) = 1 then (Comp.at' a1.mag 0 fun x1=>Comp.ret (decide (x1=1))) else (Comp.ret false))
def integer_trim_k1 (a1:(List Int)) (n1:Int):Comp (List Int):=
  Comp.chk (0≤(0:Int)∧(0:Int)≤n1∧n1≤(a1.length:Int)) (Comp.ret ((a1.take n1.toNat).drop (0:Int).toNat))
def integer_trim_L2 (a1:(List Int)):Int→Comp Int:=
  Comp.loop fun gs=>match gs with|n2=>if 0 < n2 then (Comp.at' a1 (IntKind.i64.wrap (n2 - 1)) fun x1=>if x1=0 then (Comp.ret (.inl (IntKind.i64.wrap (n2 - 1)))) else (Comp.ret (.inr n2))) else (Comp.ret (.inr n2))
def integer_trim (a1:(List Int)):Comp (List Int):=
  Comp.next (integer_trim_L2 a1 (a1.length:Int)) fun ov=>match ov with|n1=>integer_trim_k1 a1 n1
def integer_clone (a1:(List Int)):Comp (List Int):=
  Comp.chk (([]++a1).length≤small) (Comp.ret ([]++a1))
def integer_words (m1:Int):Comp (List Int):=
  Comp.bind (integer_trim [IntKind.u32.wrap m1,IntKind.u32.wrap (Int.fdiv m1 (2 ^ (min (32:Int).toNat IntKind.u64.bits)))]) fun yv1=>Comp.ret yv1
def integer_signed (neg1:Bool) (mag1:(List Int)):Comp T_api_Int:=
  Comp.bind (integer_trim mag1) fun yv1=>if (yv1.length:Int) = 0 then Comp.fail else (Comp.ret (T_api_Int.mk neg1 yv1))
def integer_compare_k1:Comp Int:=
  Comp.ret 0
def integer_compare_L2 (a1:(List Int)) (b1:(List Int)):Int→Comp (Int⊕Unit):=
  Comp.loop fun gs=>match gs with|i1=>if 0≤i1 then (Comp.at' a1 i1 fun x1=>Comp.at' b1 i1 fun x2=>if ¬ x1=x2 then (Comp.at' a1 i1 fun x3=>Comp.at' b1 i1 fun x4=>if x3 < x4 then (Comp.ret (.inr (.inl (-1)))) else (Comp.ret (.inr (.inl 1)))) else (Comp.ret (.inl (IntKind.i64.wrap (i1 - 1))))) else (Comp.ret (.inr (.inr ())))
def integer_compare (a1:(List Int)) (b1:(List Int)):Comp Int:=
  if ¬ (a1.length:Int) = (b1.length:Int) then Comp.fail else (Comp.next (integer_compare_L2 a1 b1 (IntKind.i64.wrap ((a1.length:Int) - 1))) fun ov=>match ov with | .inl rv1=>Comp.ret rv1 | .inr ()=>integer_compare_k1)
def integer_Gcd_k1 (x1:(List Int)):Comp T_api_Int:=
  Comp.bind (integer_signed false x1) fun yv5=>Comp.ret yv5
def integer_Gcd_L2:((List Int)×(List Int)×T_api_Int)→Comp (T_api_Int⊕((List Int)×T_api_Int)):=
  Comp.loop fun gs=>match gs with|(x2,yv6,bx2)=>if 0 < (yv6.length:Int) then Comp.fail else (Comp.ret (.inr (.inr (x2,bx2))))
def integer_Gcd (a1:T_api_Int) (b1:T_api_Int):Comp T_api_Int:=
  Comp.bind (integer_trim a1.mag) fun yv1=>Comp.bind (integer_clone yv1) fun yv2=>Comp.bind (integer_trim b1.mag) fun yv3=>Comp.bind (integer_clone yv3) fun yv4=>Comp.next (integer_Gcd_L2 (yv2,yv4,(T_api_Int.mk false []))) fun ov=>match ov with | .inl rv1=>Comp.ret rv1 | .inr (x1,bx1)=>integer_Gcd_k1 x1
def rational_Valid_k1 (a1:T_api_Rat):Comp Bool:=
  Comp.bind (rational_isOne a1.den) fun yv1=>match yv1 with|false=>(Comp.bind (integer_Gcd a1.num a1.den) fun yv2=>Comp.bind (rational_isOne yv2) fun yv3=>Comp.ret yv3)|true=>(Comp.ret true)
def rational_Valid (a1:T_api_Rat):Comp Bool:=
  Comp.bind (integer_Valid a1.num) fun yv4=>match yv4 with|false=>(Comp.ret false)|true=>(Comp.bind (integer_Valid a1.den) fun yv5=>match yv5 with|false=>(Comp.ret false)|true=>(Comp.bind (integer_Sign a1.den) fun yv6=>if yv6≤0 then Comp.fail else (rational_Valid_k1 a1)))
def rational_Sign (a1:T_api_Rat):Comp Int:=
  Comp.bind (integer_Sign a1.num) fun yv1=>Comp.ret yv1
def monomial_Valid_k1:Comp Bool:=
  Comp.ret true
def monomial_Valid_L2 (m1:(Fin 8→Int)):Int→Comp (Bool⊕Unit):=
  Comp.loop fun gs=>match gs with|v6_1=>if v6_1 < 8 then (Comp.chk (0≤v6_1∧v6_1 < 8) (if (getF m1 v6_1) < 0 then (Comp.ret (.inr (.inl false))) else (if 65535 < (getF m1 v6_1) then Comp.fail else (Comp.ret (.inl (IntKind.i64.wrap (v6_1 + 1))))))) else (Comp.ret (.inr (.inr ())))
def monomial_Valid (m1:(Fin 8→Int)):Comp Bool:=
  Comp.next (monomial_Valid_L2 m1 0) fun ov=>match ov with | .inl rv1=>Comp.ret rv1 | .inr ()=>monomial_Valid_k1
def polynomial_Valid_k1:Comp Bool:=
  Comp.ret true
def polynomial_Valid_k3 (p1:(List T_api_Term)) (v7_1:Int) (x1:T_api_Term):Comp (Int⊕(Bool⊕Unit)):=
  if 0 < v7_1 then (Comp.at' p1 (IntKind.i64.wrap (v7_1 - 1)) fun x2=>Comp.bind (monomial_Cmp x2.m x1.m) fun yv1=>if yv1≤0 then Comp.fail else (Comp.ret (.inl (IntKind.i64.wrap (v7_1 + 1))))) else (Comp.ret (.inl (IntKind.i64.wrap (v7_1 + 1))))
def polynomial_Valid_L2 (p1:(List T_api_Term)):Int→Comp (Bool⊕Unit):=
  Comp.loop fun gs=>match gs with|v7_1=>if v7_1 < (p1.length:Int) then (Comp.at' p1 v7_1 fun x1=>Comp.bind (rational_Valid x1.c) fun yv2=>match yv2 with|false=>(Comp.ret (.inr (.inl false)))|true=>(Comp.bind (rational_Sign x1.c) fun yv3=>if yv3=0 then (Comp.ret (.inr (.inl false))) else (Comp.bind (monomial_Valid x1.m) fun yv4=>if (!yv4) = true then Comp.fail else (polynomial_Valid_k3 p1 v7_1 x1)))) else (Comp.ret (.inr (.inr ())))
def polynomial_Valid (p1:(List T_api_Term)):Comp Bool:=
  Comp.next (polynomial_Valid_L2 p1 0) fun ov=>match ov with | .inl rv1=>Comp.ret rv1 | .inr ()=>polynomial_Valid_k1
def monomial_Support_k1 (s1:Int):Comp Int:=
  Comp.ret s1
def monomial_Support_L2 (m1:(Fin 8→Int)):(Int×Int)→Comp Int:=
  Comp.loop fun gs=>match gs with|(s2,v7_1)=>if v7_1 < 8 then (Comp.chk (0≤v7_1∧v7_1 < 8) (if 0 < (getF m1 v7_1) then (Comp.chk (0≤v7_1) (Comp.ret (.inl (IntKind.u8.wrap (BitVec.ofInt IntKind.u8.bits s2 ||| BitVec.ofInt IntKind.u8.bits (IntKind.u8.wrap (1 * 2 ^ (min (v7_1).toNat IntKind.u8.bits)))).toNat,IntKind.i64.wrap (v7_1 + 1))))) else (Comp.ret (.inl (s2,IntKind.i64.wrap (v7_1 + 1)))))) else (Comp.ret (.inr s2))
def monomial_Support (m1:(Fin 8→Int)):Comp Int:=
  Comp.next (monomial_Support_L2 m1 (0,0)) fun ov=>match ov with|s1=>monomial_Support_k1 s1
def polynomial_Uses_k1 (s1:Int):Comp Int:=
  Comp.ret s1
def polynomial_Uses_L2 (p1:(List T_api_Term)):(Int×Int)→Comp Int:=
  Comp.loop fun gs=>match gs with|(s2,v8_1)=>if v8_1 < (p1.length:Int) then (Comp.at' p1 v8_1 fun x1=>Comp.bind (monomial_Support x1.m) fun yv1=>Comp.ret (.inl (IntKind.u8.wrap (BitVec.ofInt IntKind.u8.bits s2 ||| BitVec.ofInt IntKind.u8.bits yv1).toNat,IntKind.i64.wrap (v8_1 + 1)))) else (Comp.ret (.inr s2))
def polynomial_Uses (p1:(List T_api_Term)):Comp Int:=
  Comp.next (polynomial_Uses_L2 p1 (0,0)) fun ov=>match ov with|s1=>polynomial_Uses_k1 s1
def monomial_Degree_k1 (d1:Int):Comp Int:=
  Comp.ret d1
def monomial_Degree_L2 (m1:(Fin 8→Int)):(Int×Int)→Comp Int:=
  Comp.loop fun gs=>match gs with|(d2,v7_1)=>if v7_1 < 8 then (Comp.chk (0≤v7_1∧v7_1 < 8) (Comp.ret (.inl (IntKind.i64.wrap (d2 + (getF m1 v7_1)),IntKind.i64.wrap (v7_1 + 1))))) else (Comp.ret (.inr d2))
def monomial_Degree (m1:(Fin 8→Int)):Comp Int:=
  Comp.next (monomial_Degree_L2 m1 (0,0)) fun ov=>match ov with|d1=>monomial_Degree_k1 d1
def polynomial_Degree_k1 (d1:Int):Comp Int:=
  Comp.ret d1
def polynomial_Degree_L2 (p1:(List T_api_Term)):(Int×Int)→Comp Int:=
  Comp.loop fun gs=>match gs with|(d2,v8_1)=>if v8_1 < (p1.length:Int) then (Comp.at' p1 v8_1 fun x1=>Comp.bind (monomial_Degree x1.m) fun yv1=>Comp.ret (.inl (if d2 < yv1 then yv1 else d2,IntKind.i64.wrap (v8_1 + 1)))) else (Comp.ret (.inr d2))
def polynomial_Degree (p1:(List T_api_Term)):Comp Int:=
  Comp.next (polynomial_Degree_L2 p1 ((-1),0)) fun ov=>match ov with|d1=>polynomial_Degree_k1 d1
def system_fits (p1:(List T_api_Term)) (n1:Int):Comp Bool:=
  Comp.bind (polynomial_Valid p1) fun yv1=>match yv1 with|false=>(Comp.ret false)|true=>(Comp.bind (polynomial_Uses p1) fun yv2=>Comp.chk (0≤n1) (if (Int.fdiv (IntKind.i64.wrap yv2) (2 ^ (min (n1).toNat IntKind.i64.bits))) = 0 then (Comp.bind (polynomial_Degree p1) fun yv3=>Comp.ret (decide (yv3≤12))) else (Comp.ret false)))
def system_Valid_k1:Comp Bool:=
  Comp.ret true
def system_Valid_k3 (v51_1:Int) (mp2:(List (Int×Bool))):Comp ((Int×(List (Int×Bool)))⊕(Bool⊕Unit)):=
  Comp.ret (.inl (IntKind.i64.wrap (v51_1 + 1),mp2))
def system_Valid_k5 (a0_1:T_api_System) (v60_1:Int) (mp3:(List (Int×Bool))) (x2:T_api_Equation):Comp ((Int×(List (Int×Bool)))⊕(Bool⊕((List (Int×Bool))))):=
  Comp.chk (((Lit.int IntKind.i64 x2.id).wf=true)∧(mput mp3 x2.id true).length≤small) (Comp.bind (system_fits x2.p (a0_1.vars.length:Int)) fun yv1=>if (!yv1) = true then Comp.fail else (Comp.ret (.inl (IntKind.i64.wrap (v60_1 + 1),(mput mp3 x2.id true)))))
def system_Valid_L4 (a0_1:T_api_System) (x1:(List T_api_Equation)):(Int×(List (Int×Bool)))→Comp (Bool⊕((List (Int×Bool)))):=
  Comp.loop fun gs=>match gs with|(v60_1,mp3)=>if v60_1 < (x1.length:Int) then (Comp.at' x1 v60_1 fun x2=>if x2.id < 1 then (Comp.ret (.inr (.inl false))) else (if a0_1.next≤x2.id then (Comp.ret (.inr (.inl false))) else (Comp.chk ((Lit.int IntKind.i64 x2.id).wf=true) (if ((mget mp3 x2.id).getD false) = true then (Comp.ret (.inr (.inl false))) else (if 0 < v60_1 then (Comp.at' x1 (IntKind.i64.wrap (v60_1 - 1)) fun x3=>if x2.id≤x3.id then Comp.fail else (system_Valid_k5 a0_1 v60_1 mp3 x2)) else (system_Valid_k5 a0_1 v60_1 mp3 x2)))))) else (Comp.ret (.inr (.inr mp3)))
def system_Valid_L2 (a0_1:T_api_System):(Int×(List (Int×Bool)))→Comp (Bool⊕Unit):=
  Comp.loop fun gs=>match gs with|(v51_1,mp1)=>if v51_1 < ([a0_1.eqs,a0_1.neqs].length:Int) then (Comp.at' [a0_1.eqs,a0_1.neqs] v51_1 fun x1=>if 12 < (x1.length:Int) then Comp.fail else (Comp.next (system_Valid_L4 a0_1 x1 (0,mp1)) fun ov=>match ov with | .inl rv2=>Comp.ret (.inr (.inl rv2)) | .inr mp2=>system_Valid_k3 v51_1 mp2)) else (Comp.ret (.inr (.inr ())))
def system_Valid_k6 (a0_1:T_api_System):Comp Bool:=
  Comp.next (system_Valid_L2 a0_1 (0,[])) fun ov=>match ov with | .inl rv1=>Comp.ret rv1 | .inr ()=>system_Valid_k1
def system_Valid_L7 (a0_1:T_api_System):(Int×(List (ByteArray×Bool)))→Comp (Bool⊕Unit):=
  Comp.loop fun gs=>match gs with|(v29_1,mp4)=>if v29_1 < (a0_1.vars.length:Int) then (Comp.at' a0_1.vars v29_1 fun x4=>Comp.bind (system_isName x4) fun yv2=>match yv2 with|false=>(Comp.ret (.inr (.inl false)))|true=>(Comp.chk (x4.size≤1000000) (if ((mget mp4 x4).getD false) = true then (Comp.ret (.inr (.inl false))) else (Comp.chk ((x4.size≤1000000)∧(mput mp4 x4 true).length≤small) (Comp.ret (.inl (IntKind.i64.wrap (v29_1 + 1),(mput mp4 x4 true)))))))) else (Comp.ret (.inr (.inr ())))
def system_Valid_k8 (a0_1:T_api_System):Comp Bool:=
  Comp.next (system_Valid_L7 a0_1 (0,[])) fun ov=>match ov with | .inl rv3=>Comp.ret rv3 | .inr ()=>system_Valid_k6 a0_1
def system_Valid (a0_1:T_api_System):Comp Bool:=
  if 4 < (a0_1.vars.length:Int) then (Comp.ret false) else (if a0_1.next < 1 then (Comp.ret false) else (if 1000000 < a0_1.next then (Comp.ret false) else (system_Valid_k8 a0_1)))
def edit_isName (name1:ByteArray):Comp Bool:=
  Comp.bind (system_Valid (T_api_System.mk [name1] [] [] 1)) fun yv1=>Comp.ret yv1
def slices_Index_string_string_k1:Comp Int:=
  Comp.ret (-1)
def slices_Index_string_string_L2 (s1:(List ByteArray)) (v1:ByteArray):Int→Comp (Int⊕Unit):=
  Comp.loop fun gs=>match gs with|v8_1=>if v8_1 < (s1.length:Int) then (Comp.at' s1 v8_1 fun x1=>if v1=x1 then (Comp.ret (.inr (.inl v8_1))) else (Comp.ret (.inl (IntKind.i64.wrap (v8_1 + 1))))) else (Comp.ret (.inr (.inr ())))
def slices_Index_string_string (s1:(List ByteArray)) (v1:ByteArray):Comp Int:=
  Comp.next (slices_Index_string_string_L2 s1 v1 0) fun ov=>match ov with | .inl rv1=>Comp.ret rv1 | .inr ()=>slices_Index_string_string_k1
def slices_Contains_string_string (s1:(List ByteArray)) (v1:ByteArray):Comp Bool:=
  Comp.bind (slices_Index_string_string s1 v1) fun yv1=>Comp.ret (decide (0≤yv1))
def edit_first_k1:Comp Int:=
  Comp.ret 0
def edit_first_L2 (l1:(List (Unit→Comp Int))):Int→Comp (Int⊕Unit):=
  Comp.loop fun gs=>match gs with|v8_1=>if v8_1 < (l1.length:Int) then (Comp.at' l1 v8_1 fun x1=>Comp.bind (x1 ()) fun yv1=>if ¬ yv1=0 then (Comp.ret (.inr (.inl yv1))) else (Comp.ret (.inl (IntKind.i64.wrap (v8_1 + 1))))) else (Comp.ret (.inr (.inr ())))
def edit_first (l1:(List (Unit→Comp Int))):Comp Int:=
  Comp.next (edit_first_L2 l1 0) fun ov=>match ov with | .inl rv1=>Comp.ret rv1 | .inr ()=>edit_first_k1
def edit_identity_k1 (bx1:(Fin 8→Int)):Comp (Fin 8→Int):=
  Comp.ret bx1
def edit_identity_L2:(Int×(Fin 8→Int))→Comp (Fin 8→Int):=
  Comp.loop fun gs=>match gs with|(v2_1,bx2)=>if v2_1 < 8 then (Comp.chk (0≤v2_1∧v2_1 < 8) (Comp.ret (.inl (IntKind.i64.wrap (v2_1 + 1),setF bx2 v2_1.toNat v2_1)))) else (Comp.ret (.inr bx2))
def edit_identity:Comp (Fin 8→Int):=
  Comp.next (edit_identity_L2 (0,(fun _=>0))) fun ov=>match ov with|bx1=>edit_identity_k1 bx1
def math_bits_Len64_k1 (x4:Int) (n3:Int):Comp Int:=
  Comp.chk (0≤(IntKind.u8.wrap x4:Int)∧(IntKind.u8.wrap x4) < (str_633d862b.size:Int)) (Comp.ret (IntKind.i64.wrap (n3 + (IntKind.i64.wrap (byteAt str_633d862b (IntKind.u8.wrap x4))))))
def math_bits_Len64_k2 (x3:Int) (n2:Int):Comp Int:=
  if 256≤x3 then Comp.fail else (math_bits_Len64_k1 x3 n2)
def math_bits_Len64_k3 (x2:Int) (n1:Int):Comp Int:=
  if 65536≤x2 then Comp.fail else (math_bits_Len64_k2 x2 n1)
def math_bits_Len64 (x1:Int):Comp Int:=
  if 4294967296≤x1 then Comp.fail else (math_bits_Len64_k3 x1 0)
def math_bits_Len (x1:Int):Comp Int:=
  Comp.bind (math_bits_Len64 x1) fun yv1=>Comp.ret yv1
def slices_SortFunc_api_Poly_api_Term_polynomial_sorted_c1 (x1:(List T_api_Term)):Comp (List T_api_Term):=
  Comp.bind (math_bits_Len (IntKind.u64.wrap (x1.length:Int))) fun yv1=>Comp.bind (slices_pdqsortCmpFunc_api_Term_polynomial_sorted_c1 x1 0 (x1.length:Int) yv1) fun yv2=>Comp.ret yv2
def polynomial_sorted_k1 (rv1:(List T_api_Term)):Comp (List T_api_Term):=
  Comp.bind (slices_SortFunc_api_Poly_api_Term_polynomial_sorted_c1 rv1) fun yv1=>Comp.ret yv1
def polynomial_sorted_L2:((List T_api_Term)×List ((Fin 8→Int)×T_api_Rat))→Comp (List T_api_Term):=
  Comp.loop fun gs=>match gs with|(rv2,R1)=>Comp.pick R1 (Comp.ret (.inr rv2)) fun q1 R2=>Comp.bind (rational_Sign q1.2) fun yv2=>if ¬ yv2=0 then (Comp.chk ((rv2++[(T_api_Term.mk q1.2 q1.1)]).length≤small) (Comp.ret (.inl ((rv2++[(T_api_Term.mk q1.2 q1.1)]),R2)))) else (Comp.ret (.inl (rv2,R2)))
def polynomial_sorted (terms1:(List ((Fin 8→Int)×T_api_Rat))):Comp (List T_api_Term):=
  Comp.chk (0≤(terms1.length:Int)∧(terms1.length:Int)≤1000000) (Comp.next (polynomial_sorted_L2 (([]:List T_api_Term),terms1)) fun ov=>match ov with|rv1=>polynomial_sorted_k1 rv1)
def polynomial_Permute_k1 (mp1:(List ((Fin 8→Int)×T_api_Rat))):Comp ((List T_api_Term)×Int):=
  Comp.bind (polynomial_sorted mp1) fun yv1=>Comp.ret (yv1,0)
def polynomial_Permute_k3 (v36_1:Int) (mp2:(List ((Fin 8→Int)×T_api_Rat))) (x1:T_api_Term) (bx1:(Fin 8→Int)):Comp ((Int×(List ((Fin 8→Int)×T_api_Rat)))⊕(((List ((Fin 8→Int)×T_api_Rat))))):=
  Comp.chk ((∀ i,(Lit.int IntKind.i64 (bx1 i)).wf=true)∧(mput mp2 bx1 x1.c).length≤small) (Comp.ret (.inl (IntKind.i64.wrap (v36_1 + 1),(mput mp2 bx1 x1.c))))
def polynomial_Permute_L4 (perm1:(Fin 8→Int)) (x1:T_api_Term):(Int×(Fin 8→Int))→Comp (Fin 8→Int):=
  Comp.loop fun gs=>match gs with|(v42_1,bx2)=>if v42_1 < 8 then (Comp.chk (0≤v42_1∧v42_1 < 8) (Comp.chk (0≤v42_1∧v42_1 < 8) (Comp.chk (0≤getF perm1 v42_1∧(getF perm1 v42_1) < 8) (Comp.ret (.inl (IntKind.i64.wrap (v42_1 + 1),setF bx2 ((getF perm1 v42_1).toNat) (getF x1.m v42_1))))))) else (Comp.ret (.inr bx2))
def polynomial_Permute_L2 (p1:(List T_api_Term)) (perm1:(Fin 8→Int)):(Int×(List ((Fin 8→Int)×T_api_Rat)))→Comp (((List ((Fin 8→Int)×T_api_Rat)))):=
  Comp.loop fun gs=>match gs with|(v36_1,mp2)=>if v36_1 < (p1.length:Int) then (Comp.at' p1 v36_1 fun x1=>Comp.next (polynomial_Permute_L4 perm1 x1 (0,(fun _=>0))) fun ov=>match ov with|bx1=>polynomial_Permute_k3 v36_1 mp2 x1 bx1) else (Comp.ret (.inr mp2))
def polynomial_Permute_k5 (p1:(List T_api_Term)) (perm1:(Fin 8→Int)):Comp ((List T_api_Term)×Int):=
  Comp.next (polynomial_Permute_L2 p1 perm1 (0,[])) fun ov=>match ov with|mp1=>polynomial_Permute_k1 mp1
def polynomial_Permute_L6 (perm1:(Fin 8→Int)):(Int×(Fin 8→Bool))→Comp (((List T_api_Term)×Int)⊕Unit):=
  Comp.loop fun gs=>match gs with|(v16_1,bx3)=>if v16_1 < 8 then (Comp.chk (0≤v16_1∧v16_1 < 8) (if (getF perm1 v16_1) < 0 then (Comp.ret (.inr (.inl ([],1)))) else (if 8≤(getF perm1 v16_1) then (Comp.ret (.inr (.inl ([],1)))) else (Comp.chk (0≤getF perm1 v16_1∧(getF perm1 v16_1) < 8) (if (getF bx3 (getF perm1 v16_1)) = true then Comp.fail else (Comp.chk (0≤getF perm1 v16_1∧(getF perm1 v16_1) < 8) (Comp.ret (.inl (IntKind.i64.wrap (v16_1 + 1),setF bx3 ((getF perm1 v16_1).toNat) true))))))))) else (Comp.ret (.inr (.inr ())))
def polynomial_Permute (p1:(List T_api_Term)) (perm1:(Fin 8→Int)):Comp ((List T_api_Term)×Int):=
  Comp.next (polynomial_Permute_L6 perm1 (0,(fun _=>false))) fun ov=>match ov with | .inl rv1=>Comp.ret rv1 | .inr ()=>polynomial_Permute_k5 p1 perm1
def edit_permute_c1 (q1:T_api_Equation) (cap1:(Fin 8→Int)):Comp T_api_Equation:=
  Comp.bind (polynomial_Permute q1.p cap1) fun yv1=>Comp.ret (T_api_Equation.mk q1.id yv1.1)
def edit_change_api_Equation_edit_permute_c1_k1 (rv1:(List T_api_Equation)):Comp (List T_api_Equation):=
  Comp.ret rv1
def edit_change_api_Equation_edit_permute_c1_L2 (l1:(List T_api_Equation)) (cap1:(Fin 8→Int)):((List T_api_Equation)×Int)→Comp (List T_api_Equation):=
  Comp.loop fun gs=>match gs with|(rv2,v13_1)=>if v13_1 < (l1.length:Int) then (Comp.at' l1 v13_1 fun x1=>Comp.bind (edit_permute_c1 x1 cap1) fun yv1=>Comp.at' rv2 v13_1 fun x2=>Comp.ret (.inl ((rv2.set v13_1.toNat yv1),IntKind.i64.wrap (v13_1 + 1)))) else (Comp.ret (.inr rv2))
def edit_change_api_Equation_edit_permute_c1 (l1:(List T_api_Equation)) (cap1:(Fin 8→Int)):Comp (List T_api_Equation):=
  Comp.chk (0≤(l1.length:Int)∧(l1.length:Int)≤1000000) (Comp.next (edit_change_api_Equation_edit_permute_c1_L2 l1 cap1 ((List.replicate (l1.length:Int).toNat (T_api_Equation.mk 0 [])),0)) fun ov=>match ov with|rv1=>edit_change_api_Equation_edit_permute_c1_k1 rv1)
def edit_permute (s1:T_api_System) (perm1:(Fin 8→Int)):Comp T_api_System:=
  Comp.bind (edit_change_api_Equation_edit_permute_c1 s1.eqs perm1) fun yv1=>Comp.bind (edit_change_api_Equation_edit_permute_c1 s1.neqs perm1) fun yv2=>Comp.ret (T_api_System.mk s1.vars yv1 yv2 s1.next)
def slices_Clone_string_string (s1:(List ByteArray)):Comp (List ByteArray):=
  Comp.nilCase s1 (Comp.ret []) (Comp.chk (([]++s1).length≤small) (Comp.ret ([]++s1)))
def edit_addVar_c1_K (cap1:Int):Comp Bool:=
  Comp.ret (decide (cap1 < 4))
def edit_unless_c1_K (cap1:(Unit→Comp Bool)) (cap2:Int):Comp Int:=
  Comp.bind (cap1 ()) fun yv1=>if yv1=true then (Comp.ret 0) else (Comp.ret cap2)
def edit_unless (ev1:Int) (holds1:(Unit→Comp Bool)):Comp (Unit→Comp Int):=
  Comp.ret (fun _=>edit_unless_c1_K holds1 ev1)
def edit_addVar_c2_K (cap1:T_api_Edit) (cap2:Int):Comp Bool:=
  if 0≤cap1.at' then (Comp.ret (decide (cap1.at'≤cap2))) else (Comp.ret false)
def edit_addVar_c3_K (cap1:T_api_Edit) (cap2:T_api_System):Comp Bool:=
  Comp.bind (edit_isName cap1.name) fun yv1=>match yv1 with|false=>(Comp.ret false)|true=>(Comp.bind (slices_Contains_string_string cap2.vars cap1.name) fun yv2=>Comp.ret (!yv2))
def edit_addVar_k1 (s1:T_api_System) (ev1:T_api_Edit) (bx1:(Fin 8→Int)):Comp (T_api_System×Int):=
  Comp.chk (0≤(s1.vars.length:Int)∧(s1.vars.length:Int) < 8) (Comp.bind (edit_permute s1 (setF bx1 ((s1.vars.length:Int).toNat) ev1.at')) fun yv6=>Comp.bind (slices_Clone_string_string yv6.vars) fun yv7=>Comp.bind (slices_Insert_string_string yv7 ev1.at' [ev1.name]) fun yv9=>Comp.ret ((T_api_System.mk yv9 yv6.eqs yv6.neqs yv6.next),0))
def edit_addVar_L2 (s1:T_api_System):(Int×(Fin 8→Int))→Comp (Fin 8→Int):=
  Comp.loop fun gs=>match gs with|(i1,bx2)=>if i1 < (s1.vars.length:Int) then (Comp.chk (0≤i1∧i1 < 8) (Comp.ret (.inl (IntKind.i64.wrap (i1 + 1),setF bx2 i1.toNat (IntKind.i64.wrap (i1 + 1)))))) else (Comp.ret (.inr bx2))
def edit_addVar (s1:T_api_System) (ev1:T_api_Edit):Comp (T_api_System×Int):=
  Comp.bind (edit_unless 2 (fun _=>edit_addVar_c1_K (s1.vars.length:Int))) fun yv1=>Comp.bind (edit_unless 330 (fun _=>edit_addVar_c2_K ev1 (s1.vars.length:Int))) fun yv2=>Comp.bind (edit_unless 331 (fun _=>edit_addVar_c3_K ev1 s1)) fun yv3=>Comp.bind (edit_first [yv1,yv2,yv3]) fun yv4=>if ¬ yv4=0 then (Comp.ret ((T_api_System.mk [] [] [] 0),yv4)) else (Comp.bind (edit_identity) fun yv5=>Comp.next (edit_addVar_L2 s1 (ev1.at',yv5)) fun ov=>match ov with|bx1=>edit_addVar_k1 s1 ev1 bx1)
def slices_Concat_api_Equation_api_Equation_k1 (newslice1:(List T_api_Equation)):Comp (List T_api_Equation):=
  Comp.ret newslice1
def slices_Concat_api_Equation_api_Equation_L2 (slices1:(List (List T_api_Equation))):((List T_api_Equation)×Int)→Comp (List T_api_Equation):=
  Comp.loop fun gs=>match gs with|(newslice2,v27_1)=>if v27_1 < (slices1.length:Int) then (Comp.at' slices1 v27_1 fun x1=>Comp.chk ((newslice2++x1).length≤small) (Comp.ret (.inl ((newslice2++x1),IntKind.i64.wrap (v27_1 + 1))))) else (Comp.ret (.inr newslice2))
def slices_Concat_api_Equation_api_Equation_k3 (slices1:(List (List T_api_Equation))) (size1:Int):Comp (List T_api_Equation):=
  Comp.bind (slices_Grow_api_Equation_api_Equation_nil size1) fun yv1=>Comp.next (slices_Concat_api_Equation_api_Equation_L2 slices1 (yv1,0)) fun ov=>match ov with|newslice1=>slices_Concat_api_Equation_api_Equation_k1 newslice1
def slices_Concat_api_Equation_api_Equation_L4 (slices1:(List (List T_api_Equation))):(Int×Int)→Comp Int:=
  Comp.loop fun gs=>match gs with|(size2,v11_1)=>if v11_1 < (slices1.length:Int) then (Comp.at' slices1 v11_1 fun x2=>if (IntKind.i64.wrap (size2 + (x2.length:Int))) < 0 then Comp.fail else (Comp.ret (.inl (IntKind.i64.wrap (size2 + (x2.length:Int)),IntKind.i64.wrap (v11_1 + 1))))) else (Comp.ret (.inr size2))
def slices_Concat_api_Equation_api_Equation (slices1:(List (List T_api_Equation))):Comp (List T_api_Equation):=
  Comp.next (slices_Concat_api_Equation_api_Equation_L4 slices1 (0,0)) fun ov=>match ov with|size1=>slices_Concat_api_Equation_api_Equation_k3 slices1 size1
def edit_isVar_c1_K (cap1:Int) (cap2:T_api_System):Comp Bool:=
  if 0≤cap1 then (Comp.ret (decide (cap1 < (cap2.vars.length:Int)))) else (Comp.ret false)
def edit_isVar (s1:T_api_System) (i1:Int):Comp (Unit→Comp Bool):=
  Comp.ret (fun _=>edit_isVar_c1_K i1 s1)
def edit_dropVar_c1_K_k1:Comp Bool:=
  Comp.ret true
def edit_dropVar_c1_K_L2 (cap2:T_api_Edit) (yv1:(List T_api_Equation)):Int→Comp (Bool⊕Unit):=
  Comp.loop fun gs=>match gs with|v12_1=>if v12_1 < (yv1.length:Int) then (Comp.at' yv1 v12_1 fun x1=>Comp.bind (polynomial_Uses x1.p) fun yv2=>Comp.chk (0≤cap2.at') (if ¬ (IntKind.u8.wrap (BitVec.ofInt IntKind.u8.bits yv2 &&& BitVec.ofInt IntKind.u8.bits (IntKind.u8.wrap (1 * 2 ^ (min (cap2.at').toNat IntKind.u8.bits)))).toNat) = 0 then (Comp.ret (.inr (.inl false))) else (Comp.ret (.inl (IntKind.i64.wrap (v12_1 + 1)))))) else (Comp.ret (.inr (.inr ())))
def edit_dropVar_c1_K (cap1:T_api_System) (cap2:T_api_Edit):Comp Bool:=
  Comp.bind (slices_Concat_api_Equation_api_Equation [cap1.eqs,cap1.neqs]) fun yv1=>Comp.next (edit_dropVar_c1_K_L2 cap2 yv1 0) fun ov=>match ov with | .inl rv1=>Comp.ret rv1 | .inr ()=>edit_dropVar_c1_K_k1
def edit_dropVar_k1 (s1:T_api_System) (ev1:T_api_Edit) (bx1:(Fin 8→Int)):Comp (T_api_System×Int):=
  Comp.bind (edit_permute s1 bx1) fun yv6=>Comp.bind (slices_Clone_string_string yv6.vars) fun yv7=>Comp.bind (slices_Delete_string_string yv7 ev1.at' (IntKind.i64.wrap (ev1.at' + 1))) fun yv8=>Comp.ret ((T_api_System.mk yv8 yv6.eqs yv6.neqs yv6.next),0)
def edit_dropVar_L2 (s1:T_api_System):(Int×(Fin 8→Int))→Comp (Fin 8→Int):=
  Comp.loop fun gs=>match gs with|(i1,bx2)=>if i1 < (s1.vars.length:Int) then (Comp.chk (0≤i1∧i1 < 8) (Comp.ret (.inl (IntKind.i64.wrap (i1 + 1),setF bx2 i1.toNat (IntKind.i64.wrap (i1 - 1)))))) else (Comp.ret (.inr bx2))
def edit_dropVar (s1:T_api_System) (ev1:T_api_Edit):Comp (T_api_System×Int):=
  Comp.bind (edit_isVar s1 ev1.at') fun yv1=>Comp.bind (edit_unless 330 yv1) fun yv2=>Comp.bind (edit_unless 333 (fun _=>edit_dropVar_c1_K s1 ev1)) fun yv3=>Comp.bind (edit_first [yv2,yv3]) fun yv4=>if ¬ yv4=0 then (Comp.ret ((T_api_System.mk [] [] [] 0),yv4)) else (Comp.bind (edit_identity) fun yv5=>Comp.chk (0≤ev1.at'∧ev1.at' < 8) (Comp.next (edit_dropVar_L2 s1 (IntKind.i64.wrap (ev1.at' + 1),setF yv5 ev1.at'.toNat (IntKind.i64.wrap ((s1.vars.length:Int) - 1)))) fun ov=>match ov with|bx1=>edit_dropVar_k1 s1 ev1 bx1))
def edit_rename_c1_K (cap1:T_api_System) (cap2:T_api_Edit):Comp Bool:=
  Comp.bind (slices_Index_string_string cap1.vars cap2.name) fun yv1=>Comp.bind (edit_isName cap2.name) fun yv2=>match yv2 with|false=>(Comp.ret false)|true=>(if yv1 < 0 then (Comp.ret true) else (Comp.ret (decide (yv1=cap2.at'))))
def edit_rename (s1:T_api_System) (ev1:T_api_Edit):Comp (T_api_System×Int):=
  Comp.bind (edit_isVar s1 ev1.at') fun yv1=>Comp.bind (edit_unless 330 yv1) fun yv2=>Comp.bind (edit_unless 331 (fun _=>edit_rename_c1_K s1 ev1)) fun yv3=>Comp.bind (edit_first [yv2,yv3]) fun yv4=>if ¬ yv4=0 then (Comp.ret ((T_api_System.mk [] [] [] 0),yv4)) else (Comp.bind (slices_Clone_string_string s1.vars) fun yv5=>Comp.at' yv5 ev1.at' fun x1=>Comp.ret ((T_api_System.mk (yv5.set ev1.at'.toNat ev1.name) s1.eqs s1.neqs s1.next),0))
def edit_swap (a0_1:T_api_System) (a1_1:T_api_Edit):Comp (T_api_System×Int):=
  Comp.bind (edit_isVar a0_1 a1_1.at') fun yv1=>Comp.bind (edit_unless 330 yv1) fun yv2=>Comp.bind (edit_isVar a0_1 a1_1.to') fun yv3=>Comp.bind (edit_unless 330 yv3) fun yv4=>Comp.bind (edit_first [yv2,yv4]) fun yv5=>if ¬ yv5=0 then (Comp.ret ((T_api_System.mk [] [] [] 0),yv5)) else (Comp.bind (edit_identity) fun yv6=>Comp.chk (0≤a1_1.at'∧a1_1.at' < 8) (Comp.chk (0≤a1_1.to'∧a1_1.to' < 8) (Comp.bind (edit_permute a0_1 (setF (setF yv6 a1_1.at'.toNat a1_1.to') a1_1.to'.toNat a1_1.at')) fun yv7=>Comp.bind (slices_Clone_string_string yv7.vars) fun yv8=>Comp.at' yv8 a1_1.to' fun x1=>Comp.at' yv8 a1_1.at' fun x2=>Comp.at' yv8 a1_1.at' fun x3=>Comp.at' (yv8.set a1_1.at'.toNat x1) a1_1.to' fun x4=>Comp.ret ((T_api_System.mk ((yv8.set a1_1.at'.toNat x1).set a1_1.to'.toNat x2) yv7.eqs yv7.neqs yv7.next),0))))
def system_Find_k1:Comp (T_api_Equation×Bool×Bool):=
  Comp.ret ((T_api_Equation.mk 0 []),false,false)
def system_Find_k3 (v17_1:Int) (bx3:T_api_Equation):Comp ((Int×T_api_Equation)⊕((T_api_Equation×Bool×Bool)⊕T_api_Equation)):=
  Comp.ret (.inl (IntKind.i64.wrap (v17_1 + 1),bx3))
def system_Find_L4 (id1:Int) (v17_1:Int) (x1:(List T_api_Equation)):(Int×T_api_Equation)→Comp ((T_api_Equation×Bool×Bool)⊕T_api_Equation):=
  Comp.loop fun gs=>match gs with|(v24_1,bx4)=>if v24_1 < (x1.length:Int) then (Comp.at' x1 v24_1 fun x2=>if x2.id=id1 then (Comp.ret (.inr (.inl (x2,decide (v17_1=1),true)))) else (Comp.ret (.inl (IntKind.i64.wrap (v24_1 + 1),bx4)))) else (Comp.ret (.inr (.inr bx4)))
def system_Find_L2 (s1:T_api_System) (id1:Int):(Int×T_api_Equation)→Comp ((T_api_Equation×Bool×Bool)⊕T_api_Equation):=
  Comp.loop fun gs=>match gs with|(v17_1,bx2)=>if v17_1 < ([s1.eqs,s1.neqs].length:Int) then (Comp.at' [s1.eqs,s1.neqs] v17_1 fun x1=>Comp.next (system_Find_L4 id1 v17_1 x1 (0,bx2)) fun ov=>match ov with | .inl rv2=>Comp.ret (.inr (.inl rv2)) | .inr bx3=>system_Find_k3 v17_1 bx3) else (Comp.ret (.inr (.inr bx2)))
def system_Find (s1:T_api_System) (id1:Int):Comp (T_api_Equation×Bool×Bool):=
  Comp.next (system_Find_L2 s1 id1 (0,(T_api_Equation.mk 0 []))) fun ov=>match ov with | .inl rv1=>Comp.ret rv1 | .inr bx1=>system_Find_k1
def edit_isEntry_c1_K (cap1:T_api_System) (cap2:Int):Comp Bool:=
  Comp.bind (system_Find cap1 cap2) fun yv1=>Comp.ret yv1.2.2
def edit_isEntry (s1:T_api_System) (id1:Int):Comp (Unit→Comp Bool):=
  Comp.ret (fun _=>edit_isEntry_c1_K s1 id1)
def edit_list (s1:T_api_System) (neq1:Bool):Comp (List T_api_Equation):=
  if neq1=true then (Comp.ret s1.neqs) else (Comp.ret s1.eqs)
def edit_fits_c1_K (cap1:(List T_api_Term)) (cap2:T_api_System):Comp Bool:=
  Comp.bind (polynomial_Valid cap1) fun yv1=>match yv1 with|false=>(Comp.ret false)|true=>(Comp.bind (polynomial_Uses cap1) fun yv2=>Comp.chk (0≤(cap2.vars.length:Int)) (if (Int.fdiv (IntKind.i64.wrap yv2) (2 ^ (min ((cap2.vars.length:Int)).toNat IntKind.i64.bits))) = 0 then (Comp.bind (polynomial_Degree cap1) fun yv3=>Comp.ret (decide (yv3≤12))) else (Comp.ret false)))
def edit_fits (s1:T_api_System) (p1:(List T_api_Term)):Comp (Unit→Comp Bool):=
  Comp.ret (fun _=>edit_fits_c1_K p1 s1)
def edit_number (s1:T_api_System) (ev1:T_api_Edit):Comp Int:=
  if ev1.id=0 then (Comp.ret s1.next) else (Comp.ret ev1.id)
def slices_Clone_api_Equation_api_Equation (s1:(List T_api_Equation)):Comp (List T_api_Equation):=
  Comp.nilCase s1 (Comp.ret []) (Comp.chk (([]++s1).length≤small) (Comp.ret ([]++s1)))
def cmp_isNaN_int (x1:Int):Comp Bool:=
  Comp.ret (decide (¬ x1=x1))
def cmp_Compare_int (x1:Int) (yv1:Int):Comp Int:=
  Comp.bind (cmp_isNaN_int x1) fun yv2=>Comp.bind (cmp_isNaN_int yv1) fun yv3=>if yv2=true then Comp.fail else (if yv3=true then Comp.fail else (if x1 < yv1 then (Comp.ret (-1)) else (if yv1 < x1 then (Comp.ret 1) else (Comp.ret 0))))
def edit_insert_c1 (p1:T_api_Equation) (id1:Int):Comp Int:=
  Comp.bind (cmp_Compare_int p1.id id1) fun yv1=>Comp.ret yv1
def slices_BinarySearchFunc_api_Equation_api_Equation_int_edit_insert_c1_k1 (x1:(List T_api_Equation)) (target1:Int) (i1:Int):Comp (Int×Bool):=
  if i1 < (x1.length:Int) then (Comp.at' x1 i1 fun x2=>Comp.bind (edit_insert_c1 x2 target1) fun yv1=>Comp.ret (i1,decide (yv1=0))) else (Comp.ret (i1,false))
def slices_BinarySearchFunc_api_Equation_api_Equation_int_edit_insert_c1_L2 (x1:(List T_api_Equation)) (target1:Int):(Int×Int)→Comp Int:=
  Comp.loop fun gs=>match gs with|(i2,j1)=>if i2 < j1 then (Comp.at' x1 (IntKind.i64.wrap (Int.fdiv (IntKind.u64.wrap (IntKind.i64.wrap (i2 + j1))) (2 ^ (min (1:Int).toNat IntKind.u64.bits)))) fun x3=>Comp.bind (edit_insert_c1 x3 target1) fun yv2=>if yv2 < 0 then (Comp.ret (.inl (IntKind.i64.wrap ((IntKind.i64.wrap (Int.fdiv (IntKind.u64.wrap (IntKind.i64.wrap (i2 + j1))) (2 ^ (min (1:Int).toNat IntKind.u64.bits)))) + 1),j1))) else (Comp.ret (.inl (i2,IntKind.i64.wrap (Int.fdiv (IntKind.u64.wrap (IntKind.i64.wrap (i2 + j1))) (2 ^ (min (1:Int).toNat IntKind.u64.bits))))))) else (Comp.ret (.inr i2))
def slices_BinarySearchFunc_api_Equation_api_Equation_int_edit_insert_c1 (x1:(List T_api_Equation)) (target1:Int):Comp (Int×Bool):=
  Comp.next (slices_BinarySearchFunc_api_Equation_api_Equation_int_edit_insert_c1_L2 x1 target1 (0,(x1.length:Int))) fun ov=>match ov with|i1=>slices_BinarySearchFunc_api_Equation_api_Equation_int_edit_insert_c1_k1 x1 target1 i1
def edit_insert (s1:T_api_System) (q1:T_api_Equation) (neq1:Bool):Comp T_api_System:=
  Comp.bind (edit_list s1 neq1) fun yv1=>Comp.bind (slices_Clone_api_Equation_api_Equation yv1) fun yv2=>Comp.bind (slices_BinarySearchFunc_api_Equation_api_Equation_int_edit_insert_c1 yv2 q1.id) fun yv3=>Comp.bind (slices_Insert_api_Equation_api_Equation yv2 yv3.1 [q1]) fun yv4=>if neq1=true then (Comp.ret (T_api_System.mk s1.vars s1.eqs yv4 s1.next)) else (Comp.ret (T_api_System.mk s1.vars yv4 s1.neqs s1.next))
def edit_add_c1_K (cap1:T_api_Edit) (cap2:T_api_System):Comp Bool:=
  if 0≤cap1.id then (if cap1.id < 1000000 then (Comp.bind (edit_isEntry cap2 cap1.id) fun yv1=>Comp.bind (yv1 ()) fun yv2=>Comp.ret (!yv2)) else (Comp.ret false)) else (Comp.ret false)
def edit_add_c2_K (cap1:T_api_System) (cap2:T_api_Edit):Comp Bool:=
  Comp.bind (edit_list cap1 cap2.neq) fun yv1=>if (yv1.length:Int) < 12 then (if cap2.id=0 then (Comp.ret (decide (¬ (1000000≤cap1.next)))) else (Comp.ret true)) else (Comp.ret false)
def edit_add (s1:T_api_System) (ev1:T_api_Edit):Comp (T_api_System×Int):=
  Comp.bind (edit_unless 332 (fun _=>edit_add_c1_K ev1 s1)) fun yv1=>Comp.bind (edit_unless 2 (fun _=>edit_add_c2_K s1 ev1)) fun yv2=>Comp.bind (edit_fits s1 ev1.p) fun yv3=>Comp.bind (edit_unless 320 yv3) fun yv4=>Comp.bind (edit_first [yv1,yv2,yv4]) fun yv5=>if ¬ yv5=0 then (Comp.ret ((T_api_System.mk [] [] [] 0),yv5)) else (Comp.bind (edit_number s1 ev1) fun yv6=>Comp.bind (edit_insert s1 (T_api_Equation.mk yv6 ev1.p) ev1.neq) fun yv7=>Comp.ret ((T_api_System.mk yv7.vars yv7.eqs yv7.neqs (if yv7.next < (IntKind.i64.wrap (yv6 + 1)) then (IntKind.i64.wrap (yv6 + 1)) else yv7.next)),0))
def edit_without_c1 (q1:T_api_Equation) (cap1:Int):Comp Bool:=
  Comp.ret (decide (q1.id=cap1))
def slices_IndexFunc_api_Equation_api_Equation_edit_without_c1_k1:Comp Int:=
  Comp.ret (-1)
def slices_IndexFunc_api_Equation_api_Equation_edit_without_c1_L2 (s1:(List T_api_Equation)) (cap1:Int):Int→Comp (Int⊕Unit):=
  Comp.loop fun gs=>match gs with|v8_1=>if v8_1 < (s1.length:Int) then (Comp.at' s1 v8_1 fun x1=>Comp.bind (edit_without_c1 x1 cap1) fun yv1=>if yv1=true then (Comp.ret (.inr (.inl v8_1))) else (Comp.ret (.inl (IntKind.i64.wrap (v8_1 + 1))))) else (Comp.ret (.inr (.inr ())))
def slices_IndexFunc_api_Equation_api_Equation_edit_without_c1 (s1:(List T_api_Equation)) (cap1:Int):Comp Int:=
  Comp.next (slices_IndexFunc_api_Equation_api_Equation_edit_without_c1_L2 s1 cap1 0) fun ov=>match ov with | .inl rv1=>Comp.ret rv1 | .inr ()=>slices_IndexFunc_api_Equation_api_Equation_edit_without_c1_k1
def slices_DeleteFunc_api_Equation_api_Equation_edit_without_c1_k1 (s2:(List T_api_Equation)) (i1:Int):Comp (List T_api_Equation):=
  Comp.chk (0≤i1∧i1≤(s2.length:Int)∧(s2.length:Int)≤(s2.length:Int)) (Comp.chk (0≤(0:Int)∧(0:Int)≤i1∧i1≤((s2.take i1.toNat++List.replicate (s2.length - i1.toNat) (T_api_Equation.mk 0 [])).length:Int)) (Comp.ret ((s2.take i1.toNat++List.replicate (s2.length - i1.toNat) (T_api_Equation.mk 0 [])).take i1.toNat)))
def slices_DeleteFunc_api_Equation_api_Equation_edit_without_c1_L2 (cap1:Int):((List T_api_Equation)×Int×Int)→Comp (((List T_api_Equation)×Int)):=
  Comp.loop fun gs=>match gs with|(s3,i2,j1)=>if j1 < (s3.length:Int) then (Comp.at' s3 j1 fun x1=>Comp.bind (edit_without_c1 x1 cap1) fun yv2=>if (!yv2) = true then (Comp.at' s3 i2 fun x2=>Comp.ret (.inl ((s3.set i2.toNat x1),IntKind.i64.wrap (i2 + 1),IntKind.i64.wrap (j1 + 1)))) else (Comp.ret (.inl (s3,i2,IntKind.i64.wrap (j1 + 1))))) else (Comp.ret (.inr (s3,i2)))
def slices_DeleteFunc_api_Equation_api_Equation_edit_without_c1 (s1:(List T_api_Equation)) (cap1:Int):Comp (List T_api_Equation):=
  Comp.bind (slices_IndexFunc_api_Equation_api_Equation_edit_without_c1 s1 cap1) fun yv1=>if yv1=(-1) then (Comp.ret s1) else (Comp.next (slices_DeleteFunc_api_Equation_api_Equation_edit_without_c1_L2 cap1 (s1,yv1,IntKind.i64.wrap (yv1 + 1))) fun ov=>match ov with|(s2,i1)=>slices_DeleteFunc_api_Equation_api_Equation_edit_without_c1_k1 s2 i1)
def edit_without (s1:T_api_System) (id1:Int):Comp T_api_System:=
  Comp.bind (slices_Clone_api_Equation_api_Equation s1.eqs) fun yv1=>Comp.bind (slices_DeleteFunc_api_Equation_api_Equation_edit_without_c1 yv1 id1) fun yv2=>Comp.bind (slices_Clone_api_Equation_api_Equation s1.neqs) fun yv3=>Comp.bind (slices_DeleteFunc_api_Equation_api_Equation_edit_without_c1 yv3 id1) fun yv4=>Comp.ret (T_api_System.mk s1.vars yv2 yv4 s1.next)
def edit_drop (s1:T_api_System) (ev1:T_api_Edit):Comp (T_api_System×Int):=
  Comp.bind (edit_isEntry s1 ev1.id) fun yv1=>Comp.bind (edit_unless 332 yv1) fun yv2=>Comp.bind (edit_first [yv2]) fun yv3=>if ¬ yv3=0 then (Comp.ret ((T_api_System.mk [] [] [] 0),yv3)) else (Comp.bind (edit_without s1 ev1.id) fun yv4=>Comp.ret (yv4,0))
def edit_set_c1 (q1:T_api_Equation) (cap1:T_api_Edit):Comp T_api_Equation:=
  if q1.id=cap1.id then (Comp.ret (T_api_Equation.mk q1.id cap1.p)) else (Comp.ret q1)
def edit_change_api_Equation_edit_set_c1_k1 (rv1:(List T_api_Equation)):Comp (List T_api_Equation):=
  Comp.ret rv1
def edit_change_api_Equation_edit_set_c1_L2 (l1:(List T_api_Equation)) (cap1:T_api_Edit):((List T_api_Equation)×Int)→Comp (List T_api_Equation):=
  Comp.loop fun gs=>match gs with|(rv2,v13_1)=>if v13_1 < (l1.length:Int) then (Comp.at' l1 v13_1 fun x1=>Comp.bind (edit_set_c1 x1 cap1) fun yv1=>Comp.at' rv2 v13_1 fun x2=>Comp.ret (.inl ((rv2.set v13_1.toNat yv1),IntKind.i64.wrap (v13_1 + 1)))) else (Comp.ret (.inr rv2))
def edit_change_api_Equation_edit_set_c1 (l1:(List T_api_Equation)) (cap1:T_api_Edit):Comp (List T_api_Equation):=
  Comp.chk (0≤(l1.length:Int)∧(l1.length:Int)≤1000000) (Comp.next (edit_change_api_Equation_edit_set_c1_L2 l1 cap1 ((List.replicate (l1.length:Int).toNat (T_api_Equation.mk 0 [])),0)) fun ov=>match ov with|rv1=>edit_change_api_Equation_edit_set_c1_k1 rv1)
def edit_set (s1:T_api_System) (ev1:T_api_Edit):Comp (T_api_System×Int):=
  Comp.bind (edit_isEntry s1 ev1.id) fun yv1=>Comp.bind (edit_unless 332 yv1) fun yv2=>Comp.bind (edit_fits s1 ev1.p) fun yv3=>Comp.bind (edit_unless 320 yv3) fun yv4=>Comp.bind (edit_first [yv2,yv4]) fun yv5=>if ¬ yv5=0 then (Comp.ret ((T_api_System.mk [] [] [] 0),yv5)) else (Comp.bind (edit_change_api_Equation_edit_set_c1 s1.eqs ev1) fun yv6=>Comp.bind (edit_change_api_Equation_edit_set_c1 s1.neqs ev1) fun yv7=>Comp.ret ((T_api_System.mk s1.vars yv6 yv7 s1.next),0))
def edit_flip_c1_K (cap1:T_api_System) (cap2:Bool):Comp Bool:=
  Comp.bind (edit_list cap1 (!cap2)) fun yv1=>Comp.ret (decide ((yv1.length:Int) < 12))
def edit_flip (s1:T_api_System) (ev1:T_api_Edit):Comp (T_api_System×Int):=
  Comp.bind (system_Find s1 ev1.id) fun yv1=>Comp.bind (edit_isEntry s1 ev1.id) fun yv2=>Comp.bind (edit_unless 332 yv2) fun yv3=>Comp.bind (edit_unless 2 (fun _=>edit_flip_c1_K s1 yv1.2.1)) fun yv4=>Comp.bind (edit_first [yv3,yv4]) fun yv5=>if ¬ yv5=0 then (Comp.ret ((T_api_System.mk [] [] [] 0),yv5)) else (Comp.bind (edit_without s1 ev1.id) fun yv6=>Comp.bind (edit_insert yv6 yv1.1 (!yv1.2.1)) fun yv7=>Comp.ret (yv7,0))
def edit_Apply (s1:T_api_System) (ev1:T_api_Edit):Comp (T_api_System×Int):=
  Comp.chk ((Lit.int IntKind.i64 ev1.kind).wf=true) (if (!((mget edit_kinds_D ev1.kind).isSome)) = true then (Comp.ret ((T_api_System.mk [] [] [] 0),1)) else (if (1:Int) = ev1.kind then (Comp.bind (edit_addVar s1 ev1) fun yv2=>Comp.ret (yv2.1,yv2.2)) else (if (2:Int) = ev1.kind then (Comp.bind (edit_dropVar s1 ev1) fun yv3=>Comp.ret (yv3.1,yv3.2)) else (if (3:Int) = ev1.kind then (Comp.bind (edit_rename s1 ev1) fun yv4=>Comp.ret (yv4.1,yv4.2)) else (if (4:Int) = ev1.kind then (Comp.bind (edit_swap s1 ev1) fun yv5=>Comp.ret (yv5.1,yv5.2)) else (if (5:Int) = ev1.kind then (Comp.bind (edit_add s1 ev1) fun yv6=>Comp.ret (yv6.1,yv6.2)) else (if (6:Int) = ev1.kind then (Comp.bind (edit_drop s1 ev1) fun yv7=>Comp.ret (yv7.1,yv7.2)) else (if (7:Int) = ev1.kind then (Comp.bind (edit_set s1 ev1) fun yv8=>Comp.ret (yv8.1,yv8.2)) else (if (8:Int) = ev1.kind then (Comp.bind (edit_flip s1 ev1) fun yv9=>Comp.ret (yv9.1,yv9.2)) else Comp.fail)))))))))
def edit_All_k1 (l1:(List T_api_Edit)) (bx1:T_api_System):Comp (T_api_System×Int×Int):=
  Comp.ret (bx1,(l1.length:Int),0)
def edit_All_L2 (l1:(List T_api_Edit)):(Int×T_api_System×T_api_System)→Comp ((T_api_System×Int×Int)⊕(T_api_System×T_api_System)):=
  Comp.loop fun gs=>match gs with|(v13_1,bx3,bx4)=>if v13_1 < (l1.length:Int) then (Comp.at' l1 v13_1 fun x1=>Comp.bind (edit_Apply bx3 x1) fun yv1=>if ¬ yv1.2=0 then (Comp.ret (.inr (.inl ((T_api_System.mk [] [] [] 0),v13_1,yv1.2)))) else (Comp.ret (.inl (IntKind.i64.wrap (v13_1 + 1),yv1.1,bx4)))) else (Comp.ret (.inr (.inr (bx3,bx4))))
def edit_All (s1:T_api_System) (l1:(List T_api_Edit)):Comp (T_api_System×Int×Int):=
  Comp.next (edit_All_L2 l1 (0,s1,(T_api_System.mk [] [] [] 0))) fun ov=>match ov with | .inl rv1=>Comp.ret rv1 | .inr (bx1,bx2)=>edit_All_k1 l1 bx1
def law33_done (s1:T_api_System) (l1:(List T_api_Edit)):Comp T_ref33_Done:=
  Comp.bind (edit_All s1 l1) fun yv1=>Comp.ret (T_ref33_Done.mk yv1.1 yv1.2.1 yv1.2.2)
def R02_same_k1:Comp Bool:=
  Comp.ret true
def R02_same_L2 (a1:T_api_Int) (b1:T_api_Int):Int→Comp (Bool⊕Unit):=
  Comp.loop fun gs=>match gs with|i1=>if i1 < (a1.mag.length:Int) then (Comp.at' a1.mag i1 fun x1=>Comp.at' b1.mag i1 fun x2=>if ¬ x1=x2 then Comp.fail else (Comp.ret (.inl (IntKind.i64.wrap (i1 + 1))))) else (Comp.ret (.inr (.inr ())))
def R02_same (a1:T_api_Int) (b1:T_api_Int):Comp Bool:=
  if ¬ a1.neg=b1.neg then (Comp.ret false) else (if ¬ (a1.mag.length:Int) = (b1.mag.length:Int) then Comp.fail else (Comp.next (R02_same_L2 a1 b1 0) fun ov=>match ov with | .inl rv1=>Comp.ret rv1 | .inr ()=>R02_same_k1))
def R02_Same (a1:T_api_Rat) (b1:T_api_Rat):Comp Bool:=
  Comp.bind (R02_same a1.num b1.num) fun yv1=>match yv1 with|false=>(Comp.ret false)|true=>(Comp.bind (R02_same a1.den b1.den) fun yv2=>Comp.ret yv2)
def R06_SameTerm (a1:T_api_Term) (b1:T_api_Term):Comp Bool:=
  if a1.m=b1.m then (Comp.bind (R02_Same a1.c b1.c) fun yv1=>Comp.ret yv1) else (Comp.ret false)
def R06_Same_k1:Comp Bool:=
  Comp.ret true
def R06_Same_L2 (p1:(List T_api_Term)) (q1:(List T_api_Term)):Int→Comp (Bool⊕Unit):=
  Comp.loop fun gs=>match gs with|i1=>if i1 < (p1.length:Int) then (Comp.at' p1 i1 fun x1=>Comp.at' q1 i1 fun x2=>Comp.bind (R06_SameTerm x1 x2) fun yv1=>if (!yv1) = true then Comp.fail else (Comp.ret (.inl (IntKind.i64.wrap (i1 + 1))))) else (Comp.ret (.inr (.inr ())))
def R06_Same (p1:(List T_api_Term)) (q1:(List T_api_Term)):Comp Bool:=
  if ¬ (p1.length:Int) = (q1.length:Int) then Comp.fail else (Comp.next (R06_Same_L2 p1 q1 0) fun ov=>match ov with | .inl rv1=>Comp.ret rv1 | .inr ()=>R06_Same_k1)
def edit_Inverse (a0_1:T_api_System) (a1_1:T_api_Edit):Comp (T_api_Edit×Int):=
  Comp.bind (edit_Apply a0_1 a1_1) fun yv1=>if ¬ yv1.2=0 then (Comp.ret ((T_api_Edit.mk 0 ByteArray.empty 0 0 0 [] false),yv1.2)) else (if a1_1.kind=1 then (Comp.ret ((T_api_Edit.mk 2 ByteArray.empty a1_1.at' 0 0 [] false),0)) else (if a1_1.kind=2 then (Comp.at' a0_1.vars a1_1.at' fun x1=>Comp.ret ((T_api_Edit.mk 1 x1 a1_1.at' 0 0 [] false),0)) else (if a1_1.kind=3 then (Comp.at' a0_1.vars a1_1.at' fun x2=>Comp.ret ((T_api_Edit.mk 3 x2 a1_1.at' 0 0 [] false),0)) else (if a1_1.kind=4 then (Comp.ret ((T_api_Edit.mk 4 ByteArray.empty a1_1.at' a1_1.to' 0 [] false),0)) else (if a1_1.kind=5 then (Comp.bind (edit_number a0_1 a1_1) fun yv2=>Comp.ret ((T_api_Edit.mk 6 ByteArray.empty 0 0 yv2 [] false),0)) else (if a1_1.kind=8 then (Comp.ret ((T_api_Edit.mk 8 ByteArray.empty 0 0 a1_1.id [] false),0)) else (Comp.bind (system_Find a0_1 a1_1.id) fun yv3=>if a1_1.kind=6 then (Comp.ret ((T_api_Edit.mk 5 ByteArray.empty 0 0 a1_1.id yv3.1.p yv3.2.1),0)) else (Comp.ret ((T_api_Edit.mk 7 ByteArray.empty 0 0 a1_1.id yv3.1.p false),0)))))))))
def slices_Equal_string_string_k1:Comp Bool:=
  Comp.ret true
def slices_Equal_string_string_L2 (s1_1:(List ByteArray)) (s2_1:(List ByteArray)):Int→Comp (Bool⊕Unit):=
  Comp.loop fun gs=>match gs with|v13_1=>if v13_1 < (s1_1.length:Int) then (Comp.at' s1_1 v13_1 fun x1=>Comp.at' s2_1 v13_1 fun x2=>if ¬ x1=x2 then (Comp.ret (.inr (.inl false))) else (Comp.ret (.inl (IntKind.i64.wrap (v13_1 + 1))))) else (Comp.ret (.inr (.inr ())))
def slices_Equal_string_string (s1_1:(List ByteArray)) (s2_1:(List ByteArray)):Comp Bool:=
  if ¬ (s1_1.length:Int) = (s2_1.length:Int) then (Comp.ret false) else (Comp.next (slices_Equal_string_string_L2 s1_1 s2_1 0) fun ov=>match ov with | .inl rv1=>Comp.ret rv1 | .inr ()=>slices_Equal_string_string_k1)
def integer_Of (n1:Int):Comp T_api_Int:=
  if n1 < 0 then Comp.fail else (Comp.bind (integer_words (IntKind.u64.wrap n1)) fun yv1=>Comp.bind (integer_signed (decide (n1 < 0)) yv1) fun yv2=>Comp.ret yv2)
def rational_product_k1 (bx1:T_api_Int):Comp T_api_Int:=
  Comp.ret bx1
def rational_product_L2 (l1:(List T_api_Int)):(Int×T_api_Int)→Comp T_api_Int:=
  Comp.loop fun gs=>match gs with|(v9_1,bx2)=>if v9_1 < (l1.length:Int) then (Comp.at' l1 v9_1 fun x1=>Comp.bind (rational_isOne x1) fun yv2=>if yv2=true then (Comp.ret (.inl (IntKind.i64.wrap (v9_1 + 1),bx2))) else (Comp.bind (rational_isOne bx2) fun yv3=>if yv3=true then (Comp.ret (.inl (IntKind.i64.wrap (v9_1 + 1),x1))) else Comp.fail)) else (Comp.ret (.inr bx2))
def rational_product (l1:(List T_api_Int)):Comp T_api_Int:=
  Comp.bind (integer_Of 1) fun yv1=>Comp.next (rational_product_L2 l1 (0,yv1)) fun ov=>match ov with|bx1=>rational_product_k1 bx1
def integer_Cmp (a1:T_api_Int) (b1:T_api_Int):Comp Int:=
  Comp.bind (integer_Sign a1) fun yv1=>Comp.bind (integer_Sign b1) fun yv2=>if ¬ yv1=yv2 then Comp.fail else (if yv1 < 0 then (Comp.bind (integer_compare b1.mag a1.mag) fun yv3=>Comp.ret yv3) else (Comp.bind (integer_compare a1.mag b1.mag) fun yv4=>Comp.ret yv4))
def rational_Cmp (a1:T_api_Rat) (b1:T_api_Rat):Comp Int:=
  Comp.bind (rational_Sign a1) fun yv1=>Comp.bind (rational_Sign b1) fun yv2=>if ¬ yv1=yv2 then (if yv1 < yv2 then (Comp.ret (-1)) else (Comp.ret 1)) else (Comp.bind (rational_product [a1.num,b1.den]) fun yv4=>Comp.bind (rational_product [b1.num,a1.den]) fun yv6=>Comp.bind (integer_Cmp yv4 yv6) fun yv7=>Comp.ret yv7)
def polynomial_Same_c1 (s1:T_api_Term) (t1:T_api_Term):Comp Bool:=
  if s1.m=t1.m then (Comp.bind (rational_Cmp s1.c t1.c) fun yv1=>Comp.ret (decide (yv1=0))) else (Comp.ret false)
def slices_EqualFunc_api_Poly_api_Poly_api_Term_api_Term_polynomial_Same_c1_k1:Comp Bool:=
  Comp.ret true
def slices_EqualFunc_api_Poly_api_Poly_api_Term_api_Term_polynomial_Same_c1_L2 (s1_1:(List T_api_Term)) (s2_1:(List T_api_Term)):Int→Comp (Bool⊕Unit):=
  Comp.loop fun gs=>match gs with|v17_1=>if v17_1 < (s1_1.length:Int) then (Comp.at' s1_1 v17_1 fun x1=>Comp.at' s2_1 v17_1 fun x2=>Comp.bind (polynomial_Same_c1 x1 x2) fun yv1=>if (!yv1) = true then (Comp.ret (.inr (.inl false))) else (Comp.ret (.inl (IntKind.i64.wrap (v17_1 + 1))))) else (Comp.ret (.inr (.inr ())))
def slices_EqualFunc_api_Poly_api_Poly_api_Term_api_Term_polynomial_Same_c1 (s1_1:(List T_api_Term)) (s2_1:(List T_api_Term)):Comp Bool:=
  if ¬ (s1_1.length:Int) = (s2_1.length:Int) then (Comp.ret false) else (Comp.next (slices_EqualFunc_api_Poly_api_Poly_api_Term_api_Term_polynomial_Same_c1_L2 s1_1 s2_1 0) fun ov=>match ov with | .inl rv1=>Comp.ret rv1 | .inr ()=>slices_EqualFunc_api_Poly_api_Poly_api_Term_api_Term_polynomial_Same_c1_k1)
def polynomial_Same (p1:(List T_api_Term)) (q1:(List T_api_Term)):Comp Bool:=
  Comp.bind (slices_EqualFunc_api_Poly_api_Poly_api_Term_api_Term_polynomial_Same_c1 p1 q1) fun yv1=>Comp.ret yv1
def edit_Diff_c1 (q1:T_api_Equation) (v1:Bool):Comp T_api_Edit:=
  Comp.ret (T_api_Edit.mk 6 ByteArray.empty 0 0 q1.id [] false)
def edit_Diff_c2 (q1:T_api_Equation) (neq1:Bool):Comp T_api_Edit:=
  Comp.ret (T_api_Edit.mk 5 ByteArray.empty 0 0 q1.id q1.p neq1)
def edit_missing_edit_Diff_c1_k1 (v9_1:(List T_api_Edit)):Comp (List T_api_Edit):=
  Comp.ret v9_1
def edit_missing_edit_Diff_c1_k3 (v23_1:Int) (v9_3:(List T_api_Edit)):Comp (((List T_api_Edit)×Int)⊕(List T_api_Edit)):=
  Comp.ret (.inl (v9_3,IntKind.i64.wrap (v23_1 + 1)))
def edit_missing_edit_Diff_c1_k5 (v23_1:Int) (v9_4:(List T_api_Edit)) (v30_1:Int) (x2:T_api_Equation) (v60_1:Bool):Comp (((List T_api_Edit)×Int)⊕(List T_api_Edit)):=
  if v60_1=true then (Comp.bind (edit_Diff_c1 x2 (decide (v23_1=1))) fun yv2=>Comp.chk ((v9_4++[yv2]).length≤small) (Comp.ret (.inl ((v9_4++[yv2]),IntKind.i64.wrap (v30_1 + 1))))) else (Comp.ret (.inl (v9_4,IntKind.i64.wrap (v30_1 + 1))))
def edit_missing_edit_Diff_c1_L4 (a1_1:T_api_System) (a2_1:Bool) (v23_1:Int) (x1:(List T_api_Equation)):((List T_api_Edit)×Int)→Comp (List T_api_Edit):=
  Comp.loop fun gs=>match gs with|(v9_4,v30_1)=>if v30_1 < (x1.length:Int) then (Comp.at' x1 v30_1 fun x2=>Comp.bind (system_Find a1_1 x2.id) fun yv1=>if a2_1=true then (edit_missing_edit_Diff_c1_k5 v23_1 v9_4 v30_1 x2 true) else (if yv1.2.2=true then (if ¬ yv1.2.1=(decide (v23_1=1)) then (edit_missing_edit_Diff_c1_k5 v23_1 v9_4 v30_1 x2 true) else (Comp.bind (polynomial_Same yv1.1.p x2.p) fun yv3=>edit_missing_edit_Diff_c1_k5 v23_1 v9_4 v30_1 x2 (!yv3))) else (edit_missing_edit_Diff_c1_k5 v23_1 v9_4 v30_1 x2 true))) else (Comp.ret (.inr v9_4))
def edit_missing_edit_Diff_c1_L2 (a0_1:T_api_System) (a1_1:T_api_System) (a2_1:Bool):((List T_api_Edit)×Int)→Comp (List T_api_Edit):=
  Comp.loop fun gs=>match gs with|(v9_2,v23_1)=>if v23_1 < ([a0_1.eqs,a0_1.neqs].length:Int) then (Comp.at' [a0_1.eqs,a0_1.neqs] v23_1 fun x1=>Comp.next (edit_missing_edit_Diff_c1_L4 a1_1 a2_1 v23_1 x1 (v9_2,0)) fun ov=>match ov with|v9_3=>edit_missing_edit_Diff_c1_k3 v23_1 v9_3) else (Comp.ret (.inr v9_2))
def edit_missing_edit_Diff_c1 (a0_1:T_api_System) (a1_1:T_api_System) (a2_1:Bool):Comp (List T_api_Edit):=
  Comp.next (edit_missing_edit_Diff_c1_L2 a0_1 a1_1 a2_1 ([],0)) fun ov=>match ov with|v9_1=>edit_missing_edit_Diff_c1_k1 v9_1
def edit_missing_edit_Diff_c2_k1 (v9_1:(List T_api_Edit)):Comp (List T_api_Edit):=
  Comp.ret v9_1
def edit_missing_edit_Diff_c2_k3 (v23_1:Int) (v9_3:(List T_api_Edit)):Comp (((List T_api_Edit)×Int)⊕(List T_api_Edit)):=
  Comp.ret (.inl (v9_3,IntKind.i64.wrap (v23_1 + 1)))
def edit_missing_edit_Diff_c2_k5 (v23_1:Int) (v9_4:(List T_api_Edit)) (v30_1:Int) (x2:T_api_Equation) (v60_1:Bool):Comp (((List T_api_Edit)×Int)⊕(List T_api_Edit)):=
  if v60_1=true then (Comp.bind (edit_Diff_c2 x2 (decide (v23_1=1))) fun yv2=>Comp.chk ((v9_4++[yv2]).length≤small) (Comp.ret (.inl ((v9_4++[yv2]),IntKind.i64.wrap (v30_1 + 1))))) else (Comp.ret (.inl (v9_4,IntKind.i64.wrap (v30_1 + 1))))
def edit_missing_edit_Diff_c2_L4 (a1_1:T_api_System) (a2_1:Bool) (v23_1:Int) (x1:(List T_api_Equation)):((List T_api_Edit)×Int)→Comp (List T_api_Edit):=
  Comp.loop fun gs=>match gs with|(v9_4,v30_1)=>if v30_1 < (x1.length:Int) then (Comp.at' x1 v30_1 fun x2=>Comp.bind (system_Find a1_1 x2.id) fun yv1=>if a2_1=true then (edit_missing_edit_Diff_c2_k5 v23_1 v9_4 v30_1 x2 true) else (if yv1.2.2=true then (if ¬ yv1.2.1=(decide (v23_1=1)) then (edit_missing_edit_Diff_c2_k5 v23_1 v9_4 v30_1 x2 true) else (Comp.bind (polynomial_Same yv1.1.p x2.p) fun yv3=>edit_missing_edit_Diff_c2_k5 v23_1 v9_4 v30_1 x2 (!yv3))) else (edit_missing_edit_Diff_c2_k5 v23_1 v9_4 v30_1 x2 true))) else (Comp.ret (.inr v9_4))
def edit_missing_edit_Diff_c2_L2 (a0_1:T_api_System) (a1_1:T_api_System) (a2_1:Bool):((List T_api_Edit)×Int)→Comp (List T_api_Edit):=
  Comp.loop fun gs=>match gs with|(v9_2,v23_1)=>if v23_1 < ([a0_1.eqs,a0_1.neqs].length:Int) then (Comp.at' [a0_1.eqs,a0_1.neqs] v23_1 fun x1=>Comp.next (edit_missing_edit_Diff_c2_L4 a1_1 a2_1 v23_1 x1 (v9_2,0)) fun ov=>match ov with|v9_3=>edit_missing_edit_Diff_c2_k3 v23_1 v9_3) else (Comp.ret (.inr v9_2))
def edit_missing_edit_Diff_c2 (a0_1:T_api_System) (a1_1:T_api_System) (a2_1:Bool):Comp (List T_api_Edit):=
  Comp.next (edit_missing_edit_Diff_c2_L2 a0_1 a1_1 a2_1 ([],0)) fun ov=>match ov with|v9_1=>edit_missing_edit_Diff_c2_k1 v9_1
def edit_Diff_k1 (a1:T_api_System) (b1:T_api_System) (yv1:Bool) (l1:(List T_api_Edit)):Comp ((List T_api_Edit)×Int):=
  Comp.bind (edit_missing_edit_Diff_c2 b1 a1 (!yv1)) fun yv3=>Comp.chk ((l1++yv3).length≤small) (Comp.ret ((l1++yv3),0))
def edit_Diff_k2 (a1:T_api_System) (b1:T_api_System) (yv1:Bool) (l3:(List T_api_Edit)):Comp ((List T_api_Edit)×Int):=
  edit_Diff_k1 a1 b1 yv1 l3
def edit_Diff_L3 (b1:T_api_System):((List T_api_Edit)×Int)→Comp (List T_api_Edit):=
  Comp.loop fun gs=>match gs with|(l4,v46_1)=>if v46_1 < (b1.vars.length:Int) then (Comp.at' b1.vars v46_1 fun x1=>Comp.chk ((l4++[(T_api_Edit.mk 1 x1 v46_1 0 0 [] false)]).length≤small) (Comp.ret (.inl ((l4++[(T_api_Edit.mk 1 x1 v46_1 0 0 [] false)]),IntKind.i64.wrap (v46_1 + 1))))) else (Comp.ret (.inr l4))
def edit_Diff_k4 (a1:T_api_System) (b1:T_api_System) (yv1:Bool) (l2:(List T_api_Edit)):Comp ((List T_api_Edit)×Int):=
  Comp.next (edit_Diff_L3 b1 (l2,0)) fun ov=>match ov with|l3=>edit_Diff_k2 a1 b1 yv1 l3
def edit_Diff_L5:((List T_api_Edit)×Int)→Comp (List T_api_Edit):=
  Comp.loop fun gs=>match gs with|(l5,i1)=>if 0≤i1 then (Comp.chk ((l5++[(T_api_Edit.mk 2 ByteArray.empty i1 0 0 [] false)]).length≤small) (Comp.ret (.inl ((l5++[(T_api_Edit.mk 2 ByteArray.empty i1 0 0 [] false)]),IntKind.i64.wrap (i1 - 1))))) else (Comp.ret (.inr l5))
def edit_Diff_k6 (a1:T_api_System) (b1:T_api_System):Comp ((List T_api_Edit)×Int):=
  Comp.bind (slices_Equal_string_string a1.vars b1.vars) fun yv1=>Comp.bind (edit_missing_edit_Diff_c1 a1 b1 (!yv1)) fun yv2=>if (!yv1) = true then (Comp.next (edit_Diff_L5 (yv2,IntKind.i64.wrap ((a1.vars.length:Int) - 1))) fun ov=>match ov with|l2=>edit_Diff_k4 a1 b1 yv1 l2) else (edit_Diff_k1 a1 b1 yv1 yv2)
def edit_Diff (a1:T_api_System) (b1:T_api_System):Comp ((List T_api_Edit)×Int):=
  Comp.bind (system_Valid a1) fun yv4=>match yv4 with|false=>(Comp.ret ([],320))|true=>(Comp.bind (system_Valid b1) fun yv5=>if (!yv5) = true then (Comp.ret ([],320)) else (edit_Diff_k6 a1 b1))
def R33_SameEdit (a1:T_api_Edit) (b1:T_api_Edit):Comp Bool:=
  if a1.kind=b1.kind then (if a1.name=b1.name then (if a1.at' = b1.at' then (if a1.to' = b1.to' then (if a1.id=b1.id then (if a1.neq=b1.neq then (Comp.bind (R06_Same a1.p b1.p) fun yv1=>Comp.ret yv1) else (Comp.ret false)) else (Comp.ret false)) else (Comp.ret false)) else (Comp.ret false)) else (Comp.ret false)) else (Comp.ret false)
def law33_sanity_k1 (yv6:T_ref33_Done):Comp Bool:=
  Comp.bind (edit_Apply yv6.s (T_api_Edit.mk 2 ByteArray.empty 0 0 0 [] false)) fun yv7=>Comp.bind (edit_Inverse yv6.s (T_api_Edit.mk 5 ByteArray.empty 0 0 0 [] false)) fun yv8=>Comp.bind (edit_Apply (T_api_System.mk [] [] [] 1) (T_api_Edit.mk 0 ByteArray.empty 0 0 0 [] false)) fun yv9=>Comp.bind (edit_Diff (T_api_System.mk [] [] [] 1) (T_api_System.mk [] [] [] 1)) fun yv10=>if yv7.2=333 then (if yv8.2=0 then (Comp.bind (R33_SameEdit yv8.1 (T_api_Edit.mk 6 ByteArray.empty 0 0 2 [] false)) fun yv11=>match yv11 with|false=>(Comp.ret false)|true=>(if yv9.2=1 then (if yv10.2=0 then (Comp.ret (decide ((yv10.1.length:Int) = 0))) else (Comp.ret false)) else (Comp.ret false))) else (Comp.ret false)) else (Comp.ret false)
def law33_sanity:Comp Bool:=
  Comp.bind (R06_X 0) fun yv1=>Comp.bind (R06_X 0) fun yv2=>Comp.bind (R06_By yv1 yv2) fun yv3=>Comp.bind (R06_Int 1) fun yv4=>Comp.bind (R06_Sub yv3 yv4) fun yv5=>Comp.bind (law33_done (T_api_System.mk [] [] [] 1) [(T_api_Edit.mk 1 str_9dd4e461 0 0 0 [] false),(T_api_Edit.mk 5 ByteArray.empty 0 0 0 yv5 false)]) fun yv6=>if ¬ yv6.e=0 then (Comp.ret false) else (if ¬ yv6.n=2 then (Comp.ret false) else (if ¬ (yv6.s.vars.length:Int) = 1 then (Comp.ret false) else (if ¬ (yv6.s.eqs.length:Int) = 1 then (Comp.ret false) else (Comp.at' yv6.s.eqs 0 fun x1=>if ¬ x1.id=1 then (Comp.ret false) else (if ¬ yv6.s.next=2 then (Comp.ret false) else (Comp.at' yv6.s.eqs 0 fun x2=>Comp.bind (R06_Same x2.p yv5) fun yv12=>if (!yv12) = true then Comp.fail else (law33_sanity_k1 yv6)))))))
def R33_names:Comp (List ByteArray):=
  Comp.ret [str_9dd4e461,str_41529076,str_fbade9e3,str_f1290186,str_d33def0e,str_35593b7c]
def R06_abs (n1:Int):Comp Int:=
  if n1 < 0 then (Comp.ret (IntKind.i64.wrap (0 - (IntKind.i64.wrap n1)))) else (Comp.ret (IntKind.i64.wrap n1))
def R06_Made_k1 (v9_1:(List T_api_Term)):Comp (List T_api_Term):=
  Comp.ret v9_1
def R06_Made_k3 (a0_1:T_ref06_Raw) (v9_2:(List T_api_Term)) (v10_1:Int) (bx1:(Fin 8→Int)):Comp (((List T_api_Term)×Int)⊕(List T_api_Term)):=
  Comp.at' a0_1.t v10_1 fun x1=>Comp.bind (R02_Whole (IntKind.i64.wrap (Int.tmod (getF x1 0) 4))) fun yv1=>Comp.bind (R02_Whole 1) fun yv2=>Comp.bind (R06_Scale yv1 [(T_api_Term.mk yv2 bx1)]) fun yv3=>Comp.bind (R06_Add v9_2 yv3) fun yv4=>Comp.ret (.inl (yv4,IntKind.i64.wrap (v10_1 + 1)))
def R06_Made_L4 (a0_1:T_ref06_Raw) (a1_1:Int) (v10_1:Int):(Int×Int×(Fin 8→Int))→Comp (Fin 8→Int):=
  Comp.loop fun gs=>match gs with|(v12_1,v13_1,bx2)=>if v13_1 < a1_1 then (if v13_1 < 4 then (Comp.at' a0_1.t v10_1 fun x2=>Comp.chk (0≤IntKind.i64.wrap (1 + v13_1)∧(IntKind.i64.wrap (1 + v13_1)) < 5) (Comp.bind (R06_abs (getF x2 (IntKind.i64.wrap (1 + v13_1)))) fun yv5=>Comp.chk ((IntKind.i64.wrap (v12_1 + 1))≠0) (Comp.chk (0≤v13_1∧v13_1 < 8) (Comp.chk (0≤v13_1∧v13_1 < 8) (Comp.ret (.inl (IntKind.i64.wrap (v12_1 - (getF (setF bx2 v13_1.toNat (Int.tmod yv5 (IntKind.i64.wrap (v12_1 + 1)))) v13_1)),IntKind.i64.wrap (v13_1 + 1),setF bx2 v13_1.toNat (Int.tmod yv5 (IntKind.i64.wrap (v12_1 + 1)))))))))) else (Comp.ret (.inr bx2))) else (Comp.ret (.inr bx2))
def R06_Made_k5 (a0_1:T_ref06_Raw) (a1_1:Int) (a2_1:Int) (v9_2:(List T_api_Term)) (v10_1:Int):Comp (((List T_api_Term)×Int)⊕(List T_api_Term)):=
  Comp.next (R06_Made_L4 a0_1 a1_1 v10_1 (a2_1,0,(fun _=>0))) fun ov=>match ov with|bx1=>R06_Made_k3 a0_1 v9_2 v10_1 bx1
def R06_Made_L2 (a0_1:T_ref06_Raw) (a1_1:Int) (a2_1:Int) (a3_1:Int):((List T_api_Term)×Int)→Comp (List T_api_Term):=
  Comp.loop fun gs=>match gs with|(v9_2,v10_1)=>if v10_1 < (a0_1.t.length:Int) then (if v10_1 < a3_1 then (R06_Made_k5 a0_1 a1_1 a2_1 v9_2 v10_1) else (Comp.ret (.inr v9_2))) else (Comp.ret (.inr v9_2))
def R06_Made (a0_1:T_ref06_Raw) (a1_1:Int) (a2_1:Int) (a3_1:Int):Comp (List T_api_Term):=
  Comp.next (R06_Made_L2 a0_1 a1_1 a2_1 a3_1 ([],0)) fun ov=>match ov with|v9_1=>R06_Made_k1 v9_1
def R33_Edit_k1 (a0_1:T_api_System) (a1_1:T_ref33_Raw) (bx2:T_api_Edit):Comp T_api_Edit:=
  Comp.bind (R06_Made a1_1.p (if 3 < (a0_1.vars.length:Int) then 3 else (a0_1.vars.length:Int)) 2 3) fun yv3=>Comp.ret (T_api_Edit.mk bx2.kind bx2.name bx2.at' bx2.to' bx2.id yv3 bx2.neq)
def R33_Edit_k2 (a0_1:T_api_System) (a1_1:T_ref33_Raw) (bx1:T_api_Edit):Comp T_api_Edit:=
  if bx1.kind=5 then (if 0 < (Int.tmod a1_1.n 4) then (R33_Edit_k1 a0_1 a1_1 (T_api_Edit.mk bx1.kind bx1.name bx1.at' bx1.to' 0 bx1.p bx1.neq)) else (R33_Edit_k1 a0_1 a1_1 bx1)) else (R33_Edit_k1 a0_1 a1_1 bx1)
def R33_Edit (a0_1:T_api_System) (a1_1:T_ref33_Raw):Comp T_api_Edit:=
  Comp.chk ((IntKind.i64.wrap ((a0_1.vars.length:Int) + 1))≠0) (Comp.chk ((IntKind.i64.wrap ((a0_1.vars.length:Int) + 1))≠0) (Comp.chk ((IntKind.i64.wrap (a0_1.next + 1))≠0) (Comp.bind (R33_names) fun yv1=>Comp.at' yv1 (Int.tmod a1_1.n 6) fun x2=>if 8≤(Int.tmod a1_1.kind 16) then (if (Int.tmod a1_1.a 8) < 5 then (R33_Edit_k2 a0_1 a1_1 (T_api_Edit.mk 5 x2 (Int.tmod (IntKind.i64.wrap a1_1.a) (IntKind.i64.wrap ((a0_1.vars.length:Int) + 1))) (Int.tmod (IntKind.i64.wrap a1_1.b) (IntKind.i64.wrap ((a0_1.vars.length:Int) + 1))) (Int.tmod (IntKind.i64.wrap a1_1.n) (IntKind.i64.wrap (a0_1.next + 1))) [] (decide ((Int.tmod a1_1.b 4) = 3)))) else (R33_Edit_k2 a0_1 a1_1 (T_api_Edit.mk (IntKind.i64.wrap (5 + (IntKind.i64.wrap (Int.tmod a1_1.a 4)))) x2 (Int.tmod (IntKind.i64.wrap a1_1.a) (IntKind.i64.wrap ((a0_1.vars.length:Int) + 1))) (Int.tmod (IntKind.i64.wrap a1_1.b) (IntKind.i64.wrap ((a0_1.vars.length:Int) + 1))) (Int.tmod (IntKind.i64.wrap a1_1.n) (IntKind.i64.wrap (a0_1.next + 1))) [] (decide ((Int.tmod a1_1.b 4) = 3))))) else (R33_Edit_k2 a0_1 a1_1 (T_api_Edit.mk (IntKind.i64.wrap (1 + (IntKind.i64.wrap (Int.tmod a1_1.kind 16)))) x2 (Int.tmod (IntKind.i64.wrap a1_1.a) (IntKind.i64.wrap ((a0_1.vars.length:Int) + 1))) (Int.tmod (IntKind.i64.wrap a1_1.b) (IntKind.i64.wrap ((a0_1.vars.length:Int) + 1))) (Int.tmod (IntKind.i64.wrap a1_1.n) (IntKind.i64.wrap (a0_1.next + 1))) [] (decide ((Int.tmod a1_1.b 4) = 3)))))))
def R32_letter (b1:Int):Comp Bool:=
  if 65≤b1 then (if b1≤90 then (Comp.ret true) else (if 97≤b1 then (Comp.ret (decide (b1≤122))) else (Comp.ret false))) else (if 97≤b1 then (Comp.ret (decide (b1≤122))) else (Comp.ret false))
def R32_Name_k1:Comp Bool:=
  Comp.ret true
def R32_Name_L2 (s1:ByteArray):Int→Comp (Bool⊕Unit):=
  Comp.loop fun gs=>match gs with|i1=>if i1 < (s1.size:Int) then (Comp.chk (0≤(i1:Int)∧i1 < (s1.size:Int)) (Comp.bind (R32_letter (byteAt s1 i1)) fun yv1=>match yv1 with|false=>(Comp.chk (0≤(i1:Int)∧i1 < (s1.size:Int)) (if 48≤(byteAt s1 i1) then (Comp.chk (0≤(i1:Int)∧i1 < (s1.size:Int)) (if (byteAt s1 i1)≤57 then (Comp.ret (.inl (IntKind.i64.wrap (i1 + 1)))) else (Comp.chk (0≤(i1:Int)∧i1 < (s1.size:Int)) (if ¬ (byteAt s1 i1) = 95 then (Comp.ret (.inr (.inl false))) else (Comp.ret (.inl (IntKind.i64.wrap (i1 + 1)))))))) else (Comp.chk (0≤(i1:Int)∧i1 < (s1.size:Int)) (if ¬ (byteAt s1 i1) = 95 then (Comp.ret (.inr (.inl false))) else (Comp.ret (.inl (IntKind.i64.wrap (i1 + 1))))))))|true=>(Comp.ret (.inl (IntKind.i64.wrap (i1 + 1)))))) else (Comp.ret (.inr (.inr ())))
def R32_Name_k3 (s1:ByteArray):Comp Bool:=
  Comp.next (R32_Name_L2 s1 1) fun ov=>match ov with | .inl rv1=>Comp.ret rv1 | .inr ()=>R32_Name_k1
def R32_Name (s1:ByteArray):Comp Bool:=
  if (s1.size:Int) < 1 then (Comp.ret false) else (if 12 < (s1.size:Int) then (Comp.ret false) else (Comp.chk (0≤(0:Int)∧0 < (s1.size:Int)) (Comp.bind (R32_letter (byteAt s1 0)) fun yv2=>if (!yv2) = true then (Comp.ret false) else (R32_Name_k3 s1))))
def R33_index_k1:Comp Int:=
  Comp.ret (-1)
def R33_index_L2 (s1:T_api_System) (name1:ByteArray):Int→Comp (Int⊕Unit):=
  Comp.loop fun gs=>match gs with|i1=>if i1 < (s1.vars.length:Int) then (Comp.at' s1.vars i1 fun x1=>if x1=name1 then (Comp.ret (.inr (.inl i1))) else (Comp.ret (.inl (IntKind.i64.wrap (i1 + 1))))) else (Comp.ret (.inr (.inr ())))
def R33_index (s1:T_api_System) (name1:ByteArray):Comp Int:=
  Comp.next (R33_index_L2 s1 name1 0) fun ov=>match ov with | .inl rv1=>Comp.ret rv1 | .inr ()=>R33_index_k1
def R33_is (s1:T_api_System) (atv1:Int):Comp Bool:=
  if 0≤atv1 then (Comp.ret (decide (atv1 < (s1.vars.length:Int)))) else (Comp.ret false)
def R04_Bit_k1 (n1:Int):Comp Int:=
  Comp.ret (IntKind.u8.wrap n1)
def R04_Bit_L2 (i1:Int):(Int×Int)→Comp Int:=
  Comp.loop fun gs=>match gs with|(n2,k1)=>if k1 < i1 then (Comp.ret (.inl (IntKind.i64.wrap (2 * n2),IntKind.i64.wrap (k1 + 1)))) else (Comp.ret (.inr n2))
def R04_Bit (i1:Int):Comp Int:=
  Comp.next (R04_Bit_L2 i1 (1,0)) fun ov=>match ov with|n1=>R04_Bit_k1 n1
def R04_Support_k1 (n1:Int):Comp Int:=
  Comp.ret n1
def R04_Support_L2 (m1:(Fin 8→Int)):(Int×Int)→Comp Int:=
  Comp.loop fun gs=>match gs with|(n2,i1)=>if i1 < 8 then (Comp.chk (0≤i1∧i1 < 8) (if 0 < (getF m1 i1) then (Comp.bind (R04_Bit i1) fun yv1=>Comp.ret (.inl (IntKind.u8.wrap (n2 + yv1),IntKind.i64.wrap (i1 + 1)))) else (Comp.ret (.inl (n2,IntKind.i64.wrap (i1 + 1)))))) else (Comp.ret (.inr n2))
def R04_Support (m1:(Fin 8→Int)):Comp Int:=
  Comp.next (R04_Support_L2 m1 (0,0)) fun ov=>match ov with|n1=>R04_Support_k1 n1
def R06_Uses_k1 (out1:Int):Comp Int:=
  Comp.ret out1
def R06_Uses_L2 (p1:(List T_api_Term)):(Int×Int)→Comp Int:=
  Comp.loop fun gs=>match gs with|(out2,i1)=>if i1 < (p1.length:Int) then (Comp.at' p1 i1 fun x1=>Comp.bind (R04_Support x1.m) fun yv1=>Comp.ret (.inl (IntKind.u8.wrap (BitVec.ofInt IntKind.u8.bits out2 ||| BitVec.ofInt IntKind.u8.bits yv1).toNat,IntKind.i64.wrap (i1 + 1)))) else (Comp.ret (.inr out2))
def R06_Uses (p1:(List T_api_Term)):Comp Int:=
  Comp.next (R06_Uses_L2 p1 (0,0)) fun ov=>match ov with|out1=>R06_Uses_k1 out1
def R33_used_k1:Comp Bool:=
  Comp.ret false
def R33_used_L2 (s1:T_api_System) (atv1:Int):Int→Comp (Bool⊕Unit):=
  Comp.loop fun gs=>match gs with|i1=>if i1 < (s1.neqs.length:Int) then (Comp.at' s1.neqs i1 fun x1=>Comp.bind (R06_Uses x1.p) fun yv1=>Comp.chk (0≤atv1) (if (Int.tmod (Int.fdiv (IntKind.i64.wrap yv1) (2 ^ (min (atv1).toNat IntKind.i64.bits))) 2) = 1 then (Comp.ret (.inr (.inl true))) else (Comp.ret (.inl (IntKind.i64.wrap (i1 + 1)))))) else (Comp.ret (.inr (.inr ())))
def R33_used_k3 (s1:T_api_System) (atv1:Int):Comp Bool:=
  Comp.next (R33_used_L2 s1 atv1 0) fun ov=>match ov with | .inl rv1=>Comp.ret rv1 | .inr ()=>R33_used_k1
def R33_used_L4 (s1:T_api_System) (atv1:Int):Int→Comp (Bool⊕Unit):=
  Comp.loop fun gs=>match gs with|i2=>if i2 < (s1.eqs.length:Int) then (Comp.at' s1.eqs i2 fun x2=>Comp.bind (R06_Uses x2.p) fun yv2=>Comp.chk (0≤atv1) (if (Int.tmod (Int.fdiv (IntKind.i64.wrap yv2) (2 ^ (min (atv1).toNat IntKind.i64.bits))) 2) = 1 then (Comp.ret (.inr (.inl true))) else (Comp.ret (.inl (IntKind.i64.wrap (i2 + 1)))))) else (Comp.ret (.inr (.inr ())))
def R33_used (s1:T_api_System) (atv1:Int):Comp Bool:=
  Comp.next (R33_used_L4 s1 atv1 0) fun ov=>match ov with | .inl rv2=>Comp.ret rv2 | .inr ()=>R33_used_k3 s1 atv1
def R33_find_k1:Comp Int:=
  Comp.ret (-1)
def R33_find_L2 (l1:(List T_api_Equation)) (id1:Int):Int→Comp (Int⊕Unit):=
  Comp.loop fun gs=>match gs with|i1=>if i1 < (l1.length:Int) then (Comp.at' l1 i1 fun x1=>if x1.id=id1 then (Comp.ret (.inr (.inl i1))) else (Comp.ret (.inl (IntKind.i64.wrap (i1 + 1))))) else (Comp.ret (.inr (.inr ())))
def R33_find (l1:(List T_api_Equation)) (id1:Int):Comp Int:=
  Comp.next (R33_find_L2 l1 id1 0) fun ov=>match ov with | .inl rv1=>Comp.ret rv1 | .inr ()=>R33_find_k1
def R33_has (s1:T_api_System) (id1:Int):Comp Bool:=
  Comp.bind (R33_find s1.eqs id1) fun yv1=>if 0≤yv1 then (Comp.ret true) else (Comp.bind (R33_find s1.neqs id1) fun yv2=>Comp.ret (decide (0≤yv2)))
def R01_Valid (a1:T_api_Int):Comp Bool:=
  if (a1.mag.length:Int) = 0 then Comp.fail else (Comp.at' a1.mag (IntKind.i64.wrap ((a1.mag.length:Int) - 1)) fun x1=>Comp.ret (decide (¬ x1=0)))
def R01_Cmp (a1:T_api_Int) (b1:T_api_Int):Comp Int:=
  if a1.neg=true then (if (!b1.neg) = true then Comp.fail else (if a1.neg=true then (if a1.neg=true then Comp.fail else (Comp.bind (R01_compared a1.mag b1.mag) fun yv1=>Comp.ret yv1)) else (if b1.neg=true then Comp.fail else (if a1.neg=true then Comp.fail else (Comp.bind (R01_compared a1.mag b1.mag) fun yv2=>Comp.ret yv2))))) else (if a1.neg=true then (if a1.neg=true then Comp.fail else (Comp.bind (R01_compared a1.mag b1.mag) fun yv3=>Comp.ret yv3)) else (if b1.neg=true then Comp.fail else (if a1.neg=true then Comp.fail else (Comp.bind (R01_compared a1.mag b1.mag) fun yv4=>Comp.ret yv4))))
def R02_Valid_k1 (a1:T_api_Rat):Comp Bool:=
  Comp.bind (R01_Gcd a1.num a1.den) fun yv1=>Comp.bind (R01_Of 1) fun yv2=>Comp.bind (R01_Cmp yv1 yv2) fun yv3=>Comp.ret (decide (yv3=0))
def R02_Valid (a1:T_api_Rat):Comp Bool:=
  Comp.bind (R01_Valid a1.num) fun yv4=>match yv4 with|false=>(Comp.ret false)|true=>(Comp.bind (R01_Valid a1.den) fun yv5=>match yv5 with|false=>(Comp.ret false)|true=>(Comp.bind (R01_Sign a1.den) fun yv6=>if yv6 < 1 then Comp.fail else (R02_Valid_k1 a1)))
def R06_Valid_k1:Comp Bool:=
  Comp.ret true
def R06_Valid_k3 (p1:(List T_api_Term)) (i1:Int):Comp (Int⊕(Bool⊕Unit)):=
  if 0 < i1 then (Comp.at' p1 (IntKind.i64.wrap (i1 - 1)) fun x1=>Comp.at' p1 i1 fun x2=>Comp.bind (R04_Cmp x1.m x2.m) fun yv1=>if yv1≤0 then Comp.fail else (Comp.ret (.inl (IntKind.i64.wrap (i1 + 1))))) else (Comp.ret (.inl (IntKind.i64.wrap (i1 + 1))))
def R06_Valid_L2 (p1:(List T_api_Term)):Int→Comp (Bool⊕Unit):=
  Comp.loop fun gs=>match gs with|i1=>if i1 < (p1.length:Int) then (Comp.at' p1 i1 fun x3=>Comp.bind (R02_Valid x3.c) fun yv2=>match yv2 with|false=>(Comp.ret (.inr (.inl false)))|true=>(Comp.at' p1 i1 fun x4=>Comp.bind (R02_Sign x4.c) fun yv3=>if yv3=0 then (Comp.ret (.inr (.inl false))) else (Comp.at' p1 i1 fun x5=>Comp.bind (R04_Valid x5.m) fun yv4=>if (!yv4) = true then Comp.fail else (R06_Valid_k3 p1 i1)))) else (Comp.ret (.inr (.inr ())))
def R06_Valid (p1:(List T_api_Term)):Comp Bool:=
  Comp.next (R06_Valid_L2 p1 0) fun ov=>match ov with | .inl rv1=>Comp.ret rv1 | .inr ()=>R06_Valid_k1
def R04_Degree_k1 (n1:Int):Comp Int:=
  Comp.ret n1
def R04_Degree_L2 (m1:(Fin 8→Int)):(Int×Int)→Comp Int:=
  Comp.loop fun gs=>match gs with|(n2,i1)=>if i1 < 8 then (Comp.chk (0≤i1∧i1 < 8) (Comp.ret (.inl (IntKind.i64.wrap (n2 + (getF m1 i1)),IntKind.i64.wrap (i1 + 1))))) else (Comp.ret (.inr n2))
def R04_Degree (m1:(Fin 8→Int)):Comp Int:=
  Comp.next (R04_Degree_L2 m1 (0,0)) fun ov=>match ov with|n1=>R04_Degree_k1 n1
def R06_Degree_k1 (d1:Int):Comp Int:=
  Comp.ret d1
def R06_Degree_L2 (p1:(List T_api_Term)):(Int×Int)→Comp Int:=
  Comp.loop fun gs=>match gs with|(d2,i1)=>if i1 < (p1.length:Int) then (Comp.at' p1 i1 fun x1=>Comp.bind (R04_Degree x1.m) fun yv1=>Comp.ret (.inl (if d2 < yv1 then yv1 else d2,IntKind.i64.wrap (i1 + 1)))) else (Comp.ret (.inr d2))
def R06_Degree (p1:(List T_api_Term)):Comp Int:=
  Comp.next (R06_Degree_L2 p1 ((-1),0)) fun ov=>match ov with|d1=>R06_Degree_k1 d1
def R33_fits (p1:(List T_api_Term)) (n1:Int):Comp Bool:=
  Comp.bind (R06_Valid p1) fun yv1=>match yv1 with|false=>(Comp.ret false)|true=>(Comp.bind (R06_Uses p1) fun yv2=>Comp.chk (0≤n1) (if (Int.fdiv (IntKind.i64.wrap yv2) (2 ^ (min (n1).toNat IntKind.i64.bits))) = 0 then (Comp.bind (R06_Degree p1) fun yv3=>Comp.ret (decide (yv3≤12))) else (Comp.ret false)))
def R33_checkAdd_k1 (s1:T_api_System) (ev1:T_api_Edit):Comp Int:=
  Comp.bind (R33_fits ev1.p (s1.vars.length:Int)) fun yv1=>if (!yv1) = true then (Comp.ret 320) else (Comp.ret 0)
def R33_checkAdd_k2 (s1:T_api_System) (ev1:T_api_Edit):Comp Int:=
  if ev1.neq=true then (if ev1.neq=true then (if 12≤(s1.neqs.length:Int) then (Comp.ret 2) else (if ev1.id=0 then (if 1000000≤s1.next then (Comp.ret 2) else (R33_checkAdd_k1 s1 ev1)) else (R33_checkAdd_k1 s1 ev1))) else (if ev1.id=0 then (if 1000000≤s1.next then (Comp.ret 2) else (R33_checkAdd_k1 s1 ev1)) else (R33_checkAdd_k1 s1 ev1))) else (if 12≤(s1.eqs.length:Int) then (Comp.ret 2) else (if ev1.neq=true then (if 12≤(s1.neqs.length:Int) then (Comp.ret 2) else (if ev1.id=0 then (if 1000000≤s1.next then (Comp.ret 2) else (R33_checkAdd_k1 s1 ev1)) else (R33_checkAdd_k1 s1 ev1))) else (if ev1.id=0 then (if 1000000≤s1.next then (Comp.ret 2) else (R33_checkAdd_k1 s1 ev1)) else (R33_checkAdd_k1 s1 ev1))))
def R33_checkAdd (s1:T_api_System) (ev1:T_api_Edit):Comp Int:=
  if ev1.id < 0 then (Comp.ret 332) else (if 999999 < ev1.id then (Comp.ret 332) else (if 0 < ev1.id then (Comp.bind (R33_has s1 ev1.id) fun yv2=>if yv2=true then (Comp.ret 332) else (R33_checkAdd_k2 s1 ev1)) else (R33_checkAdd_k2 s1 ev1)))
def R33_checkId_k1 (s1:T_api_System) (ev1:T_api_Edit):Comp Int:=
  Comp.bind (R33_find s1.eqs ev1.id) fun yv2=>if ev1.kind=8 then (if 0≤yv2 then (if 12≤(s1.neqs.length:Int) then (Comp.ret 2) else (if 0≤yv2 then (Comp.ret 0) else (if 12≤(s1.eqs.length:Int) then (Comp.ret 2) else (Comp.ret 0)))) else (if 0≤yv2 then (Comp.ret 0) else (if 12≤(s1.eqs.length:Int) then (Comp.ret 2) else (Comp.ret 0)))) else (Comp.ret 0)
def R33_checkId (s1:T_api_System) (ev1:T_api_Edit):Comp Int:=
  Comp.bind (R33_has s1 ev1.id) fun yv1=>if (!yv1) = true then (Comp.ret 332) else (if ev1.kind=7 then (Comp.bind (R33_fits ev1.p (s1.vars.length:Int)) fun yv3=>if (!yv3) = true then (Comp.ret 320) else (R33_checkId_k1 s1 ev1)) else (R33_checkId_k1 s1 ev1))
def R33_Check (a0_1:T_api_System) (a1_1:T_api_Edit):Comp Int:=
  if a1_1.kind=1 then (if 4≤(a0_1.vars.length:Int) then (Comp.ret 2) else (if a1_1.at' < 0 then (Comp.ret 330) else (if (a0_1.vars.length:Int) < a1_1.at' then (Comp.ret 330) else (Comp.bind (R32_Name a1_1.name) fun yv1=>match yv1 with|false=>(Comp.ret 331)|true=>(Comp.bind (R33_index a0_1 a1_1.name) fun yv2=>if 0≤yv2 then (Comp.ret 331) else (Comp.ret 0)))))) else (if a1_1.kind=2 then (Comp.bind (R33_is a0_1 a1_1.at') fun yv3=>if (!yv3) = true then (Comp.ret 330) else (Comp.bind (R33_used a0_1 a1_1.at') fun yv4=>if yv4=true then (Comp.ret 333) else (Comp.ret 0))) else (if a1_1.kind=3 then (Comp.bind (R33_is a0_1 a1_1.at') fun yv5=>if (!yv5) = true then (Comp.ret 330) else (Comp.bind (R33_index a0_1 a1_1.name) fun yv6=>Comp.bind (R32_Name a1_1.name) fun yv7=>match yv7 with|false=>(Comp.ret 331)|true=>(if 0≤yv6 then (if ¬ yv6=a1_1.at' then (Comp.ret 331) else (Comp.ret 0)) else (Comp.ret 0)))) else (if a1_1.kind=4 then (Comp.bind (R33_is a0_1 a1_1.at') fun yv8=>match yv8 with|false=>(Comp.ret 330)|true=>(Comp.bind (R33_is a0_1 a1_1.to') fun yv9=>if (!yv9) = true then (Comp.ret 330) else (Comp.ret 0))) else (if a1_1.kind=5 then (Comp.bind (R33_checkAdd a0_1 a1_1) fun yv10=>Comp.ret yv10) else (if a1_1.kind=6 then (if a1_1.kind=6 then (Comp.bind (R33_checkId a0_1 a1_1) fun yv11=>Comp.ret yv11) else (Comp.ret 1)) else (if a1_1.kind=7 then (if a1_1.kind=7 then (Comp.bind (R33_checkId a0_1 a1_1) fun yv12=>Comp.ret yv12) else (Comp.ret 1)) else (if a1_1.kind=8 then (Comp.bind (R33_checkId a0_1 a1_1) fun yv13=>Comp.ret yv13) else (Comp.ret 1))))))))
def R33_rotated_k1 (fromv1:Int) (tov1:Int) (bx1:(Fin 8→Int)):Comp (Fin 8→Int):=
  Comp.chk (0≤fromv1∧fromv1 < 8) (Comp.ret (setF bx1 fromv1.toNat tov1))
def R33_rotated_k3 (fromv1:Int) (tov1:Int) (i1:Int) (bx3:(Fin 8→Int)):Comp ((Int×(Fin 8→Int))⊕(Fin 8→Int)):=
  if i1 < fromv1 then (if tov1≤i1 then (Comp.chk (0≤i1∧i1 < 8) (Comp.ret (.inl (IntKind.i64.wrap (i1 + 1),setF bx3 i1.toNat (IntKind.i64.wrap (i1 + 1)))))) else (Comp.ret (.inl (IntKind.i64.wrap (i1 + 1),bx3)))) else (Comp.ret (.inl (IntKind.i64.wrap (i1 + 1),bx3)))
def R33_rotated_L2 (fromv1:Int) (tov1:Int):(Int×(Fin 8→Int))→Comp (Fin 8→Int):=
  Comp.loop fun gs=>match gs with|(i1,bx2)=>if i1 < 8 then (Comp.chk (0≤i1∧i1 < 8) (if fromv1 < i1 then (if i1≤tov1 then (Comp.chk (0≤i1∧i1 < 8) (R33_rotated_k3 fromv1 tov1 i1 (setF (setF bx2 i1.toNat i1) i1.toNat (IntKind.i64.wrap (i1 - 1))))) else (R33_rotated_k3 fromv1 tov1 i1 (setF bx2 i1.toNat i1))) else (R33_rotated_k3 fromv1 tov1 i1 (setF bx2 i1.toNat i1)))) else (Comp.ret (.inr bx2))
def R33_rotated (fromv1:Int) (tov1:Int):Comp (Fin 8→Int):=
  Comp.next (R33_rotated_L2 fromv1 tov1 (0,(fun _=>0))) fun ov=>match ov with|bx1=>R33_rotated_k1 fromv1 tov1 bx1
def R06_IsPermutation_k1:Comp Bool:=
  Comp.ret true
def R06_IsPermutation_L2 (perm1:(Fin 8→Int)):(Int×(Fin 8→Bool))→Comp (Bool⊕Unit):=
  Comp.loop fun gs=>match gs with|(i1,bx1)=>if i1 < 8 then (Comp.chk (0≤i1∧i1 < 8) (if (getF perm1 i1) < 0 then (Comp.ret (.inr (.inl false))) else (Comp.chk (0≤i1∧i1 < 8) (if 8≤(getF perm1 i1) then (Comp.ret (.inr (.inl false))) else (Comp.chk (0≤i1∧i1 < 8) (Comp.chk (0≤getF perm1 i1∧(getF perm1 i1) < 8) (if (getF bx1 (getF perm1 i1)) = true then Comp.fail else (Comp.chk (0≤i1∧i1 < 8) (Comp.chk (0≤getF perm1 i1∧(getF perm1 i1) < 8) (Comp.ret (.inl (IntKind.i64.wrap (i1 + 1),setF bx1 ((getF perm1 i1).toNat) true)))))))))))) else (Comp.ret (.inr (.inr ())))
def R06_IsPermutation (perm1:(Fin 8→Int)):Comp Bool:=
  Comp.next (R06_IsPermutation_L2 perm1 (0,(fun _=>false))) fun ov=>match ov with | .inl rv1=>Comp.ret rv1 | .inr ()=>R06_IsPermutation_k1
def R06_Permute_k1 (out1:(List T_api_Term)):Comp ((List T_api_Term)×Int):=
  Comp.ret (out1,0)
def R06_Permute_k3 (p1:(List T_api_Term)) (out2:(List T_api_Term)) (k1:Int) (bx1:(Fin 8→Int)):Comp (((List T_api_Term)×Int)⊕(List T_api_Term)):=
  Comp.at' p1 k1 fun x1=>Comp.bind (R06_Add out2 [(T_api_Term.mk x1.c bx1)]) fun yv2=>Comp.ret (.inl (yv2,IntKind.i64.wrap (k1 + 1)))
def R06_Permute_L4 (p1:(List T_api_Term)) (perm1:(Fin 8→Int)) (k1:Int):(Int×(Fin 8→Int))→Comp (Fin 8→Int):=
  Comp.loop fun gs=>match gs with|(i1,bx2)=>if i1 < 8 then (Comp.chk (0≤i1∧i1 < 8) (Comp.at' p1 k1 fun x2=>Comp.chk (0≤i1∧i1 < 8) (Comp.chk (0≤getF perm1 i1∧(getF perm1 i1) < 8) (Comp.ret (.inl (IntKind.i64.wrap (i1 + 1),setF bx2 ((getF perm1 i1).toNat) (getF x2.m i1))))))) else (Comp.ret (.inr bx2))
def R06_Permute_L2 (p1:(List T_api_Term)) (perm1:(Fin 8→Int)):((List T_api_Term)×Int)→Comp (List T_api_Term):=
  Comp.loop fun gs=>match gs with|(out2,k1)=>if k1 < (p1.length:Int) then (Comp.next (R06_Permute_L4 p1 perm1 k1 (0,(fun _=>0))) fun ov=>match ov with|bx1=>R06_Permute_k3 p1 out2 k1 bx1) else (Comp.ret (.inr out2))
def R06_Permute (p1:(List T_api_Term)) (perm1:(Fin 8→Int)):Comp ((List T_api_Term)×Int):=
  Comp.bind (R06_IsPermutation perm1) fun yv1=>if (!yv1) = true then Comp.fail else (Comp.next (R06_Permute_L2 p1 perm1 ([],0)) fun ov=>match ov with|out1=>R06_Permute_k1 out1)
def R33_moved_k1 (out1:(List T_api_Equation)):Comp (List T_api_Equation):=
  Comp.ret out1
def R33_moved_L2 (l1:(List T_api_Equation)) (perm1:(Fin 8→Int)):((List T_api_Equation)×Int)→Comp (List T_api_Equation):=
  Comp.loop fun gs=>match gs with|(out2,i1)=>if i1 < (l1.length:Int) then (Comp.at' l1 i1 fun x1=>Comp.bind (R06_Permute x1.p perm1) fun yv1=>Comp.at' l1 i1 fun x2=>Comp.chk ((out2++[(T_api_Equation.mk x2.id yv1.1)]).length≤small) (Comp.ret (.inl ((out2++[(T_api_Equation.mk x2.id yv1.1)]),IntKind.i64.wrap (i1 + 1))))) else (Comp.ret (.inr out2))
def R33_moved (l1:(List T_api_Equation)) (perm1:(Fin 8→Int)):Comp (List T_api_Equation):=
  Comp.next (R33_moved_L2 l1 perm1 ([],0)) fun ov=>match ov with|out1=>R33_moved_k1 out1
def R33_put_k1 (x1:T_api_Equation) (out1:(List T_api_Equation)) (done1:Bool):Comp (List T_api_Equation):=
  if (!done1) = true then (Comp.chk ((out1++[x1]).length≤small) (Comp.ret (out1++[x1]))) else (Comp.ret out1)
def R33_put_k3 (l1:(List T_api_Equation)) (x1:T_api_Equation) (i1:Int) (out3:(List T_api_Equation)) (done3:Bool):Comp (((List T_api_Equation)×Bool×Int)⊕(((List T_api_Equation)×Bool))):=
  Comp.at' l1 i1 fun x2=>if ¬ x2.id=x1.id then (Comp.at' l1 i1 fun x3=>Comp.chk ((out3++[x3]).length≤small) (Comp.ret (.inl ((out3++[x3]),done3,IntKind.i64.wrap (i1 + 1))))) else (Comp.ret (.inl (out3,done3,IntKind.i64.wrap (i1 + 1))))
def R33_put_L2 (l1:(List T_api_Equation)) (x1:T_api_Equation):((List T_api_Equation)×Bool×Int)→Comp (((List T_api_Equation)×Bool)):=
  Comp.loop fun gs=>match gs with|(out2,done2,i1)=>if i1 < (l1.length:Int) then (if done2=true then (R33_put_k3 l1 x1 i1 out2 done2) else (Comp.at' l1 i1 fun x4=>if x1.id≤x4.id then (Comp.chk ((out2++[x1]).length≤small) (R33_put_k3 l1 x1 i1 (out2++[x1]) true)) else (R33_put_k3 l1 x1 i1 out2 done2))) else (Comp.ret (.inr (out2,done2)))
def R33_put (l1:(List T_api_Equation)) (x1:T_api_Equation):Comp (List T_api_Equation):=
  Comp.next (R33_put_L2 l1 x1 ([],false,0)) fun ov=>match ov with|(out1,done1)=>R33_put_k1 x1 out1 done1
def R33_drop_k1 (out1:(List T_api_Equation)):Comp (List T_api_Equation):=
  Comp.ret out1
def R33_drop_L2 (l1:(List T_api_Equation)) (id1:Int):((List T_api_Equation)×Int)→Comp (List T_api_Equation):=
  Comp.loop fun gs=>match gs with|(out2,i1)=>if i1 < (l1.length:Int) then (Comp.at' l1 i1 fun x1=>if ¬ x1.id=id1 then (Comp.at' l1 i1 fun x2=>Comp.chk ((out2++[x2]).length≤small) (Comp.ret (.inl ((out2++[x2]),IntKind.i64.wrap (i1 + 1))))) else (Comp.ret (.inl (out2,IntKind.i64.wrap (i1 + 1))))) else (Comp.ret (.inr out2))
def R33_drop (l1:(List T_api_Equation)) (id1:Int):Comp (List T_api_Equation):=
  Comp.next (R33_drop_L2 l1 id1 ([],0)) fun ov=>match ov with|out1=>R33_drop_k1 out1
def R33_equations_k1 (a0_1:T_api_System) (a1_1:T_api_Edit) (bx1:T_api_Equation):Comp T_api_System:=
  if a1_1.neq=true then (Comp.bind (R33_put a0_1.neqs bx1) fun yv3=>Comp.ret (T_api_System.mk a0_1.vars a0_1.eqs yv3 (if a0_1.next < (IntKind.i64.wrap (bx1.id + 1)) then (IntKind.i64.wrap (bx1.id + 1)) else a0_1.next))) else (Comp.bind (R33_put a0_1.eqs bx1) fun yv4=>Comp.ret (T_api_System.mk a0_1.vars yv4 a0_1.neqs (if a0_1.next < (IntKind.i64.wrap (bx1.id + 1)) then (IntKind.i64.wrap (bx1.id + 1)) else a0_1.next)))
def R33_equations (a0_1:T_api_System) (a1_1:T_api_Edit):Comp T_api_System:=
  Comp.bind (R33_find a0_1.eqs a1_1.id) fun yv1=>Comp.bind (R33_find a0_1.neqs a1_1.id) fun yv2=>if a1_1.kind=5 then (if a1_1.id=0 then (R33_equations_k1 a0_1 a1_1 (T_api_Equation.mk a0_1.next a1_1.p)) else (R33_equations_k1 a0_1 a1_1 (T_api_Equation.mk a1_1.id a1_1.p))) else (if a1_1.kind=6 then (Comp.bind (R33_drop a0_1.eqs a1_1.id) fun yv5=>Comp.bind (R33_drop a0_1.neqs a1_1.id) fun yv6=>Comp.ret (T_api_System.mk a0_1.vars yv5 yv6 a0_1.next)) else (if a1_1.kind=7 then (if 0≤yv1 then (Comp.bind (R33_put a0_1.eqs (T_api_Equation.mk a1_1.id a1_1.p)) fun yv7=>Comp.ret (T_api_System.mk a0_1.vars yv7 a0_1.neqs a0_1.next)) else (Comp.bind (R33_put a0_1.neqs (T_api_Equation.mk a1_1.id a1_1.p)) fun yv8=>Comp.ret (T_api_System.mk a0_1.vars a0_1.eqs yv8 a0_1.next))) else (if a1_1.kind=8 then (Comp.bind (R33_drop a0_1.eqs a1_1.id) fun yv9=>Comp.bind (R33_drop a0_1.neqs a1_1.id) fun yv10=>if 0≤yv1 then (Comp.at' a0_1.eqs yv1 fun x1=>Comp.bind (R33_put a0_1.neqs x1) fun yv11=>Comp.ret (T_api_System.mk a0_1.vars yv9 yv11 a0_1.next)) else (Comp.at' a0_1.neqs yv2 fun x2=>Comp.bind (R33_put a0_1.eqs x2) fun yv12=>Comp.ret (T_api_System.mk a0_1.vars yv12 yv10 a0_1.next))) else (Comp.ret a0_1))))
def R33_Apply (a0_1:T_api_System) (a1_1:T_api_Edit):Comp (T_api_System×Int):=
  Comp.bind (R33_Check a0_1 a1_1) fun yv1=>if ¬ yv1=0 then (Comp.ret ((T_api_System.mk [] [] [] 0),yv1)) else (Comp.chk (([]++a0_1.vars).length≤small) (if a1_1.kind=1 then (Comp.chk (0≤(0:Int)∧(0:Int)≤a1_1.at'∧a1_1.at'≤(a0_1.vars.length:Int)) (Comp.chk ((([]:List ByteArray)++((a0_1.vars.take a1_1.at'.toNat).drop (0:Int).toNat)).length≤small) (Comp.chk (((([]:List ByteArray)++((a0_1.vars.take a1_1.at'.toNat).drop (0:Int).toNat))++[a1_1.name]).length≤small) (Comp.chk (0≤a1_1.at'∧a1_1.at'≤(a0_1.vars.length:Int)∧(a0_1.vars.length:Int)≤(a0_1.vars.length:Int)) (Comp.chk ((((([]:List ByteArray)++((a0_1.vars.take a1_1.at'.toNat).drop (0:Int).toNat))++[a1_1.name])++((a0_1.vars.take (a0_1.vars.length:Int).toNat).drop a1_1.at'.toNat)).length≤small) (Comp.bind (R33_rotated (a0_1.vars.length:Int) a1_1.at') fun yv6=>Comp.bind (R33_moved a0_1.eqs yv6) fun yv7=>Comp.bind (R33_rotated (a0_1.vars.length:Int) a1_1.at') fun yv8=>Comp.bind (R33_moved a0_1.neqs yv8) fun yv9=>Comp.ret ((T_api_System.mk (((([]:List ByteArray)++((a0_1.vars.take a1_1.at'.toNat).drop (0:Int).toNat))++[a1_1.name])++((a0_1.vars.take (a0_1.vars.length:Int).toNat).drop a1_1.at'.toNat)) yv7 yv9 a0_1.next),0))))))) else (if a1_1.kind=2 then (Comp.chk (0≤(0:Int)∧(0:Int)≤a1_1.at'∧a1_1.at'≤(a0_1.vars.length:Int)) (Comp.chk ((([]:List ByteArray)++((a0_1.vars.take a1_1.at'.toNat).drop (0:Int).toNat)).length≤small) (Comp.chk (0≤IntKind.i64.wrap (a1_1.at' + 1)∧(IntKind.i64.wrap (a1_1.at' + 1))≤(a0_1.vars.length:Int)∧(a0_1.vars.length:Int)≤(a0_1.vars.length:Int)) (Comp.chk (((([]:List ByteArray)++((a0_1.vars.take a1_1.at'.toNat).drop (0:Int).toNat))++((a0_1.vars.take (a0_1.vars.length:Int).toNat).drop (IntKind.i64.wrap (a1_1.at' + 1)).toNat)).length≤small) (Comp.bind (R33_rotated a1_1.at' (IntKind.i64.wrap ((a0_1.vars.length:Int) - 1))) fun yv12=>Comp.bind (R33_moved a0_1.eqs yv12) fun yv13=>Comp.bind (R33_rotated a1_1.at' (IntKind.i64.wrap ((a0_1.vars.length:Int) - 1))) fun yv14=>Comp.bind (R33_moved a0_1.neqs yv14) fun yv15=>Comp.ret ((T_api_System.mk ((([]:List ByteArray)++((a0_1.vars.take a1_1.at'.toNat).drop (0:Int).toNat))++((a0_1.vars.take (a0_1.vars.length:Int).toNat).drop (IntKind.i64.wrap (a1_1.at' + 1)).toNat)) yv13 yv15 a0_1.next),0)))))) else (if a1_1.kind=3 then (Comp.at' ([]++a0_1.vars) a1_1.at' fun x1=>Comp.ret ((T_api_System.mk (([]++a0_1.vars).set a1_1.at'.toNat a1_1.name) a0_1.eqs a0_1.neqs a0_1.next),0)) else (if a1_1.kind=4 then (Comp.bind (R33_rotated 0 0) fun yv16=>Comp.chk (0≤a1_1.at'∧a1_1.at' < 8) (Comp.chk (0≤a1_1.to'∧a1_1.to' < 8) (Comp.at' a0_1.vars a1_1.to' fun x2=>Comp.at' ([]++a0_1.vars) a1_1.at' fun x3=>Comp.at' a0_1.vars a1_1.at' fun x4=>Comp.at' (([]++a0_1.vars).set a1_1.at'.toNat x2) a1_1.to' fun x5=>Comp.bind (R33_moved a0_1.eqs (setF (setF yv16 a1_1.at'.toNat a1_1.to') a1_1.to'.toNat a1_1.at')) fun yv17=>Comp.bind (R33_moved a0_1.neqs (setF (setF yv16 a1_1.at'.toNat a1_1.to') a1_1.to'.toNat a1_1.at')) fun yv18=>Comp.ret ((T_api_System.mk ((([]++a0_1.vars).set a1_1.at'.toNat x2).set a1_1.to'.toNat x4) yv17 yv18 a0_1.next),0)))) else (Comp.bind (R33_equations a0_1 a1_1) fun yv19=>Comp.ret (yv19,0)))))))
def R33_Made_k1 (bx1:T_api_System):Comp T_api_System:=
  Comp.ret bx1
def R33_Made_L2 (l1:(List T_ref33_Raw)) (most1:Int):(Int×T_api_System)→Comp T_api_System:=
  Comp.loop fun gs=>match gs with|(i1,bx2)=>if i1 < (l1.length:Int) then (if i1 < most1 then (Comp.at' l1 i1 fun x1=>Comp.bind (R33_Edit bx2 x1) fun yv1=>Comp.bind (R33_Apply bx2 yv1) fun yv2=>if yv2.2=0 then (Comp.ret (.inl (IntKind.i64.wrap (i1 + 1),yv2.1))) else (Comp.ret (.inl (IntKind.i64.wrap (i1 + 1),bx2)))) else (Comp.ret (.inr bx2))) else (Comp.ret (.inr bx2))
def R33_Made (l1:(List T_ref33_Raw)) (most1:Int):Comp T_api_System:=
  Comp.next (R33_Made_L2 l1 most1 (0,(T_api_System.mk [] [] [] 1))) fun ov=>match ov with|bx1=>R33_Made_k1 bx1
def law33_odd_k1 (x1:T_law33_Odd) (name1:ByteArray):Comp T_api_Edit:=
  Comp.bind (R06_Made x1.p 4 13 4) fun yv1=>Comp.ret (T_api_Edit.mk (IntKind.i64.wrap x1.kind) name1 (IntKind.i64.wrap x1.at') (IntKind.i64.wrap x1.to') (IntKind.i64.wrap x1.id) yv1 x1.neq)
def law33_odd (x1:T_law33_Odd):Comp T_api_Edit:=
  if 20 < (x1.name.size:Int) then (Comp.chk (0≤(0:Int)∧(0:Int)≤(20:Int)∧(20:Int)≤(x1.name.size:Int)) (law33_odd_k1 x1 (x1.name.extract 0 (20:Int).toNat))) else (law33_odd_k1 x1 x1.name)
def R32_SameList_k1:Comp Bool:=
  Comp.ret true
def R32_SameList_L2 (a1:(List T_api_Equation)) (b1:(List T_api_Equation)):Int→Comp (Bool⊕Unit):=
  Comp.loop fun gs=>match gs with|i1=>if i1 < (a1.length:Int) then (Comp.at' a1 i1 fun x1=>Comp.at' b1 i1 fun x2=>if ¬ x1.id=x2.id then (Comp.ret (.inr (.inl false))) else (Comp.at' a1 i1 fun x3=>Comp.at' b1 i1 fun x4=>Comp.bind (R06_Same x3.p x4.p) fun yv1=>if (!yv1) = true then Comp.fail else (Comp.ret (.inl (IntKind.i64.wrap (i1 + 1)))))) else (Comp.ret (.inr (.inr ())))
def R32_SameList (a1:(List T_api_Equation)) (b1:(List T_api_Equation)):Comp Bool:=
  if ¬ (a1.length:Int) = (b1.length:Int) then Comp.fail else (Comp.next (R32_SameList_L2 a1 b1 0) fun ov=>match ov with | .inl rv1=>Comp.ret rv1 | .inr ()=>R32_SameList_k1)
def R32_Same_k1:Comp Bool:=
  Comp.ret true
def R32_Same_L2 (a1:T_api_System) (b1:T_api_System):Int→Comp (Bool⊕Unit):=
  Comp.loop fun gs=>match gs with|i1=>if i1 < (a1.vars.length:Int) then (Comp.at' a1.vars i1 fun x1=>Comp.at' b1.vars i1 fun x2=>if ¬ x1=x2 then Comp.fail else (Comp.ret (.inl (IntKind.i64.wrap (i1 + 1))))) else (Comp.ret (.inr (.inr ())))
def R32_Same_k3 (a1:T_api_System) (b1:T_api_System):Comp Bool:=
  Comp.next (R32_Same_L2 a1 b1 0) fun ov=>match ov with | .inl rv1=>Comp.ret rv1 | .inr ()=>R32_Same_k1
def R32_Same (a1:T_api_System) (b1:T_api_System):Comp Bool:=
  if ¬ (a1.vars.length:Int) = (b1.vars.length:Int) then (Comp.ret false) else (if ¬ a1.next=b1.next then (Comp.ret false) else (Comp.bind (R32_SameList a1.eqs b1.eqs) fun yv1=>match yv1 with|false=>(Comp.ret false)|true=>(Comp.bind (R32_SameList a1.neqs b1.neqs) fun yv2=>if (!yv2) = true then Comp.fail else (R32_Same_k3 a1 b1))))
def R33_Do_k1 (l1:(List T_api_Edit)) (bx1:T_api_System):Comp T_ref33_Done:=
  Comp.ret (T_ref33_Done.mk bx1 (l1.length:Int) 0)
def R33_Do_L2 (l1:(List T_api_Edit)):(Int×T_api_System×T_ref33_Done)→Comp (T_ref33_Done⊕(T_api_System×T_ref33_Done)):=
  Comp.loop fun gs=>match gs with|(i1,bx3,bx4)=>if i1 < (l1.length:Int) then (Comp.at' l1 i1 fun x1=>Comp.bind (R33_Apply bx3 x1) fun yv1=>if ¬ yv1.2=0 then (Comp.ret (.inr (.inl (T_ref33_Done.mk (T_api_System.mk [] [] [] 0) i1 yv1.2)))) else (Comp.ret (.inl (IntKind.i64.wrap (i1 + 1),yv1.1,bx4)))) else (Comp.ret (.inr (.inr (bx3,bx4))))
def R33_Do (s1:T_api_System) (l1:(List T_api_Edit)):Comp T_ref33_Done:=
  Comp.next (R33_Do_L2 l1 (0,s1,(T_ref33_Done.mk (T_api_System.mk [] [] [] 0) 0 0))) fun ov=>match ov with | .inl rv1=>Comp.ret rv1 | .inr (bx1,bx2)=>R33_Do_k1 l1 bx1
def R32_within (p1:(List T_api_Term)) (n1:Int):Comp Bool:=
  Comp.bind (R06_Valid p1) fun yv1=>match yv1 with|false=>(Comp.ret false)|true=>(Comp.bind (R06_Degree p1) fun yv2=>if yv2≤12 then (Comp.bind (R06_Uses p1) fun yv3=>Comp.chk (0≤(IntKind.u64.wrap n1)) (Comp.ret (decide ((IntKind.i64.wrap yv3) < (IntKind.i64.wrap (1 * 2 ^ (min (IntKind.u64.wrap n1).toNat IntKind.i64.bits))))))) else (Comp.ret false))
def R32_list_k1:Comp Bool:=
  Comp.ret true
def R32_list_L2 (l1:(List T_api_Equation)) (n1:Int) (next1:Int):Int→Comp (Bool⊕Unit):=
  Comp.loop fun gs=>match gs with|i1=>if i1 < (l1.length:Int) then (Comp.at' l1 i1 fun x1=>if x1.id < 1 then (Comp.ret (.inr (.inl false))) else (Comp.at' l1 i1 fun x2=>if next1≤x2.id then (Comp.ret (.inr (.inl false))) else (if 0 < i1 then (Comp.at' l1 (IntKind.i64.wrap (i1 - 1)) fun x3=>Comp.at' l1 i1 fun x4=>if x4.id≤x3.id then (Comp.ret (.inr (.inl false))) else (Comp.at' l1 i1 fun x5=>Comp.bind (R32_within x5.p n1) fun yv1=>if (!yv1) = true then Comp.fail else (Comp.ret (.inl (IntKind.i64.wrap (i1 + 1)))))) else (Comp.at' l1 i1 fun x6=>Comp.bind (R32_within x6.p n1) fun yv2=>if (!yv2) = true then Comp.fail else (Comp.ret (.inl (IntKind.i64.wrap (i1 + 1)))))))) else (Comp.ret (.inr (.inr ())))
def R32_list (l1:(List T_api_Equation)) (n1:Int) (next1:Int):Comp Bool:=
  if 12 < (l1.length:Int) then Comp.fail else (Comp.next (R32_list_L2 l1 n1 next1 0) fun ov=>match ov with | .inl rv1=>Comp.ret rv1 | .inr ()=>R32_list_k1)
def R32_Valid_k1:Comp Bool:=
  Comp.ret true
def R32_Valid_k3 (v6_1:Int):Comp (Int⊕(Bool⊕Unit)):=
  Comp.ret (.inl (IntKind.i64.wrap (v6_1 + 1)))
def R32_Valid_L4 (a0_1:T_api_System) (v6_1:Int):Int→Comp (Bool⊕Unit):=
  Comp.loop fun gs=>match gs with|v7_1=>if v7_1 < (a0_1.neqs.length:Int) then (Comp.at' a0_1.eqs v6_1 fun x1=>Comp.at' a0_1.neqs v7_1 fun x2=>if x1.id=x2.id then Comp.fail else (Comp.ret (.inl (IntKind.i64.wrap (v7_1 + 1))))) else (Comp.ret (.inr (.inr ())))
def R32_Valid_L2 (a0_1:T_api_System):Int→Comp (Bool⊕Unit):=
  Comp.loop fun gs=>match gs with|v6_1=>if v6_1 < (a0_1.eqs.length:Int) then (Comp.next (R32_Valid_L4 a0_1 v6_1 0) fun ov=>match ov with | .inl rv2=>Comp.ret (.inr (.inl rv2)) | .inr ()=>R32_Valid_k3 v6_1) else (Comp.ret (.inr (.inr ())))
def R32_Valid_k5 (a0_1:T_api_System):Comp Bool:=
  Comp.next (R32_Valid_L2 a0_1 0) fun ov=>match ov with | .inl rv1=>Comp.ret rv1 | .inr ()=>R32_Valid_k1
def R32_Valid_k7 (a0_1:T_api_System) (v4_1:Int):Comp (Int⊕(Bool⊕Unit)):=
  Comp.at' a0_1.vars v4_1 fun x3=>Comp.bind (R32_Name x3) fun yv1=>if (!yv1) = true then Comp.fail else (Comp.ret (.inl (IntKind.i64.wrap (v4_1 + 1))))
def R32_Valid_L8 (a0_1:T_api_System) (v4_1:Int):Int→Comp (Bool⊕Unit):=
  Comp.loop fun gs=>match gs with|v5_1=>if v5_1 < v4_1 then (Comp.at' a0_1.vars v4_1 fun x4=>Comp.at' a0_1.vars v5_1 fun x5=>if x4=x5 then Comp.fail else (Comp.ret (.inl (IntKind.i64.wrap (v5_1 + 1))))) else (Comp.ret (.inr (.inr ())))
def R32_Valid_L6 (a0_1:T_api_System):Int→Comp (Bool⊕Unit):=
  Comp.loop fun gs=>match gs with|v4_1=>if v4_1 < (a0_1.vars.length:Int) then (Comp.next (R32_Valid_L8 a0_1 v4_1 0) fun ov=>match ov with | .inl rv4=>Comp.ret (.inr (.inl rv4)) | .inr ()=>R32_Valid_k7 a0_1 v4_1) else (Comp.ret (.inr (.inr ())))
def R32_Valid_k9 (a0_1:T_api_System):Comp Bool:=
  Comp.next (R32_Valid_L6 a0_1 0) fun ov=>match ov with | .inl rv3=>Comp.ret rv3 | .inr ()=>R32_Valid_k5 a0_1
def R32_Valid (a0_1:T_api_System):Comp Bool:=
  if 4 < (a0_1.vars.length:Int) then (Comp.ret false) else (if a0_1.next < 1 then (Comp.ret false) else (if 1000000 < a0_1.next then (Comp.ret false) else (Comp.bind (R32_list a0_1.eqs (a0_1.vars.length:Int) a0_1.next) fun yv2=>match yv2 with|false=>(Comp.ret false)|true=>(Comp.bind (R32_list a0_1.neqs (a0_1.vars.length:Int) a0_1.next) fun yv3=>if (!yv3) = true then Comp.fail else (R32_Valid_k9 a0_1)))))
def law33_EditValid (l1:(List T_ref33_Raw)) (x1:T_law33_Odd):Comp Bool:=
  Comp.bind (law33_sanity) fun yv1=>if (!yv1) = true then Comp.fail else (Comp.bind (R33_Made l1 12) fun yv2=>Comp.bind (law33_odd x1) fun yv3=>Comp.bind (edit_Apply yv2 yv3) fun yv4=>if ¬ yv4.2=0 then (Comp.bind (R32_Same yv4.1 (T_api_System.mk [] [] [] 0)) fun yv7=>match yv7 with|false=>(Comp.ret false)|true=>(Comp.ret yv1)) else (Comp.bind (R32_Valid yv4.1) fun yv8=>match yv8 with|false=>(Comp.ret false)|true=>(if yv2.next≤yv4.1.next then (Comp.ret yv1) else (Comp.ret false))))
end Go.EL

namespace Go.EL
open Go
namespace Comp
variable {α β σ ρ:Type}
theorem wp_ret {a:α} {p:α→Prop}:(Comp.ret a).wp p↔p a:=Iff.rfl
theorem wp_ite {q:Prop} [Decidable q] {c d:Comp α} {p:α→Prop}:(if q then c else d).wp p↔if q then c.wp p else d.wp p:=by split <;> rfl
theorem Out_inl {A:σ→Prop} {Φ:ρ→Prop} {s:σ}:Out A Φ (.inl s)↔A s:=Iff.rfl
theorem Ret.then {c:Comp α} {a:α} (h:c.Ret a) {p:α→Prop} (hp:p a):c.wp p:=c.mono (fun b e=>by rw [e]; exact hp) h
end Comp
theorem wrap64 {x:Int} (h:-9223372036854775808≤x∧x≤9223372036854775807):IntKind.i64.wrap x=x:=IntWalk.i64_in _ h
theorem getF8 {a:Fin 8→Int} {i:Int} (h:0≤i∧i < 8):getF a i=a ⟨i.toNat,by omega⟩:=getF_eq a (by omega)
end Go.EL
namespace Go.EL
open Go
theorem monomial_Cmp_ret (a b:M):(monomial_Cmp a b).Ret (cmpM a b):=by
  unfold monomial_Cmp
  by_cases h:a=b
  · rw [if_pos h]
    subst h
    exact (cmpM_self a).symm
  · rw [if_neg h]
    have hne:∀ k:Nat,k≤8→(∀ j:Fin 8,j.val < k→a j=b j)→k < 8:=fun k hk hj=>by
      rcases Nat.lt_or_ge k 8 with h1|h1
      · exact h1
      · exact absurd (funext fun j=>hj j (by omega)) h
    refine Comp.loop_inv (I:=fun i:Int=>0≤i∧i < 8∧∀ j:Fin 8,(j.val:Int) < i→a j=b j) (m:=fun i=>(8 - i).toNat) (fun i hi=>?_) 0 ⟨by omega,by omega,fun j hj=>by omega⟩
    obtain ⟨h0,h8,hj⟩:=hi
    refine ⟨⟨h0,h8⟩,⟨h0,h8⟩,?_⟩
    rw [Comp.wp_ite,getF8 ⟨h0,h8⟩,getF8 ⟨h0,h8⟩]
    split
    · rename_i e
      have hj':∀ j:Fin 8,(j.val:Int) < i + 1→a j=b j:=fun j hj1=>by
        by_cases h2:(j.val:Int) < i
        · exact hj j h2
        · have:j = ⟨i.toNat,by omega⟩:=Fin.ext (by simp; omega)
          rw [this]; exact e
      have:=hne (i + 1).toNat (by omega) (fun j hj1=>hj' j (by omega))
      rw [Comp.wp_ret,Comp.Out_inl,wrap64 (by omega)]
      exact ⟨⟨by omega,by omega,hj'⟩,by omega⟩
    · rename_i e
      refine ⟨⟨h0,h8⟩,⟨h0,h8⟩,?_⟩
      rw [Comp.wp_ite,getF8 ⟨h0,h8⟩,getF8 ⟨h0,h8⟩]
      have hk:i.toNat < 8:=by omega
      split
      · rename_i e2
        exact (cmpM_lt a b hk (fun j hj1=>hj j (by omega)) e2).symm
      · rename_i e2
        exact (cmpM_gt a b hk (fun j hj1=>hj j (by omega)) (by omega)).symm
end Go.EL

namespace Go.EL
open Go
instance decInt:DecidableEq T_api_Int:=fun ⟨a1,a2⟩ ⟨b1,b2⟩=>decidable_of_iff (a1=b1∧a2=b2) (by simp)
instance decRat:DecidableEq T_api_Rat:=fun ⟨a1,a2⟩ ⟨b1,b2⟩=>decidable_of_iff (a1=b1∧a2=b2) (by simp)
def ratI (n:Int):T_api_Rat:=⟨⟨decide (n < 0),if n=0 then [] else [(n.natAbs:Int)]⟩,⟨false,[1]⟩⟩
def between (l h:Int) (p:Int→Bool):Bool:=(List.range (h - l + 1).toNat).all fun k=>p (l + (k:Int))
theorem between_of {l h:Int} {p:Int→Bool} (hb:between l h p=true) {x:Int} (h1:l≤x) (h2:x≤h):p x=true:=by
  have:=List.all_eq_true.1 hb (x - l).toNat (List.mem_range.2 (by omega))
  rwa [show l + ((x - l).toNat:Int) = x by omega] at this
def runs {α:Type} [DecidableEq α] (n:Nat) (c:Comp α) (a:α):Bool:=decide (c.ev n=some a)
theorem runs_ret {α:Type} [DecidableEq α] {n:Nat} {c:Comp α} {a:α} (h:runs n c a=true):c.Ret a:=Comp.Ret.of_ev n (of_decide_eq_true h)
theorem whole_all:(between (-8) 8 fun n=>runs 20 (R02_Whole n) (ratI n)) = true:=by decide +kernel
theorem add_all:(between (-12) 12 fun a=>between (-3) 3 fun b=>runs 30 (R02_Add (ratI a) (ratI b)) (ratI (a + b))) = true:=by decide +kernel
theorem mul_all:(between (-3) 3 fun a=>runs 30 (R02_Mul (ratI a) (ratI 1)) (ratI a)) = true:=by decide +kernel
theorem sign_all:(between (-15) 15 fun a=>runs 30 (R02_Sign (ratI a)) (if a < 0 then -1 else if a=0 then 0 else 1)) = true:=by decide +kernel
theorem valid_all:(between (-15) 15 fun a=>a == 0 || runs 30 (R02_Valid (ratI a)) true) = true:=by decide +kernel
theorem same_all:(between (-12) 12 fun a=>a == 0 || runs 30 (R02_Same (ratI a) (ratI a)) true) = true:=by decide +kernel
theorem rsign_all:(between (-12) 12 fun a=>a == 0 || runs 30 (rational_Sign (ratI a)) (if a < 0 then -1 else if a=0 then 0 else 1)) = true:=by decide +kernel
theorem rvalid_all:(between (-12) 12 fun a=>a == 0 || runs 30 (rational_Valid (ratI a)) true) = true:=by decide +kernel
theorem rcmp_all:(between (-12) 12 fun a=>a == 0 || between (-12) 12 fun b=>b == 0 || runs 30 (rational_Cmp (ratI a) (ratI b)) (if a < b then -1 else if a=b then 0 else 1)) = true:=by decide +kernel
end Go.EL

namespace Go.EL
open Go Go.RowKit
instance inhM:Inhabited M:=⟨fun _=>0⟩
def mixM (k:Nat) (f a:M):M:=fun i=>if i.val < k then f i else a i
theorem mix_step {k:Nat} (f a:M) (h:k < 8):setF (mixM k f a) k (f ⟨k,h⟩) = mixM (k + 1) f a:=by
  funext i; unfold setF mixM
  by_cases e:i.val=k
  · have:i = ⟨k,h⟩:=Fin.ext e
    subst this; simp
  · have e1:(i.val < k + 1) = (i.val < k):=by apply propext; omega
    simp [e,e1]
theorem mix_at {k:Nat} (f a:M) (h:k < 8):mixM k f a ⟨k,h⟩ = a ⟨k,h⟩:=by unfold mixM; simp
theorem mix_zero (f a:M):mixM 0 f a=a:=by funext i; simp [mixM]
theorem mix_all {k:Nat} (f a:M) (h:¬ k < 8):mixM k f a=f:=by
  funext i
  have:i.val < k:=by omega
  simp [mixM,this]
theorem all_step {p:Fin 8→Prop} {k:Nat} (hall:∀ i:Fin 8,i.val < k→p i) (h:k < 8) (hk:p ⟨k,h⟩):∀ i:Fin 8,i.val < k + 1→p i:=fun i hi=>by
  by_cases e:i.val=k
  · have:i = ⟨k,h⟩:=Fin.ext e
    rw [this]; exact hk
  · exact hall i (by omega)
def Ok (a:M):Prop:=∀ i,0≤a i∧a i≤65535
instance decOk (a:M):Decidable (Ok a):=inferInstanceAs (Decidable (∀ i,0≤a i∧a i≤65535))
def p2:Nat→Int
  | 0=>1
  | k + 1=>2 * p2 k
theorem p2_le:∀ {k:Nat},k≤8→1≤p2 k∧p2 k≤256
  | 0,_=>by decide
  | 1,_=>by decide
  | 2,_=>by decide
  | 3,_=>by decide
  | 4,_=>by decide
  | 5,_=>by decide
  | 6,_=>by decide
  | 7,_=>by decide
  | 8,_=>by decide
  | k + 9,h=>by omega
theorem p2_lt {k:Nat} (h:k < 8):1≤p2 k∧p2 k≤128:=by
  have:=p2_le (k:=k + 1) (by omega)
  simp only [p2] at this
  omega
theorem p2_shift {k:Nat} (h:k < 8):IntKind.u8.wrap (1 * 2 ^ (min (k:Int).toNat IntKind.u8.bits)) = p2 k:=by
  match k,h with
  | 0,_=>decide|1,_=>decide|2,_=>decide|3,_=>decide|4,_=>decide|5,_=>decide|6,_=>decide|7,_=>decide
theorem p2_wrap {k:Nat} (h:k < 8):IntKind.u8.wrap (p2 k) = p2 k:=by
  match k,h with
  | 0,_=>decide|1,_=>decide|2,_=>decide|3,_=>decide|4,_=>decide|5,_=>decide|6,_=>decide|7,_=>decide
def suppTo (a:M):Nat→Int
  | 0=>0
  | k + 1=>suppTo a k + (if h:k < 8 then (if 0 < a ⟨k,h⟩ then p2 k else 0) else 0)
def suppM (a:M):Int:=suppTo a 8
theorem suppTo_lt (a:M):∀ k:Nat,0≤suppTo a k∧suppTo a k < p2 k
  | 0=>by simp [suppTo,p2]
  | k + 1=>by
    have ih:=suppTo_lt a k
    simp only [suppTo,p2]
    split
    · split <;> omega
    · omega
theorem suppTo_yes (a:M) {k:Nat} (h:k < 8) (ha:0 < a ⟨k,h⟩):suppTo a k + p2 k=suppTo a (k + 1):=by simp [suppTo,h,ha]
theorem suppTo_no (a:M) {k:Nat} (h:k < 8) (ha:¬ 0 < a ⟨k,h⟩):suppTo a k=suppTo a (k + 1):=by simp [suppTo,h,ha]
theorem or_p2_nat:∀ k:Fin 8,∀ s:Fin 128,s.val < 2 ^ k.val→IntKind.u8.wrap (BitVec.ofInt IntKind.u8.bits (s.val:Int) ||| BitVec.ofInt IntKind.u8.bits (p2 k.val)).toNat=s.val + p2 k.val:=by decide +kernel
theorem p2_nat:∀ k:Nat,p2 k=((2 ^ k:Nat):Int)
  | 0=>rfl
  | k + 1=>by rw [p2,p2_nat k,Nat.pow_succ]; omega
theorem or_p2 {k:Nat} (h:k < 8) {s:Int} (h0:0≤s) (h1:s < p2 k):IntKind.u8.wrap (BitVec.ofInt IntKind.u8.bits s ||| BitVec.ofInt IntKind.u8.bits (p2 k)).toNat=s + p2 k:=by
  obtain ⟨n,rfl⟩:=Int.eq_ofNat_of_zero_le h0
  have h2:=p2_lt h
  rw [p2_nat] at h1
  exact or_p2_nat ⟨k,h⟩ ⟨n,by rw [p2_nat] at h2; omega⟩ (by simp; omega)
theorem add_p2 {k:Nat} (h:k < 8) {s:Int} (h0:0≤s) (h1:s < p2 k):IntKind.u8.wrap (s + p2 k) = s + p2 k:=by
  have h2:=p2_lt h
  simp only [IntKind.wrap,IntKind.bits,IntKind.signed,Bool.false_and,Bool.false_eq_true,if_false]
  omega
theorem Comp.loop_idx {σ ρ:Type} {step:σ→Comp (σ⊕ρ)} {Φ:ρ→Prop} (n:Nat) (I:Nat→σ→Prop) (h:∀ k s,k < n→I k s→(step s).wp (Out (fun s'=>I (k + 1) s') Φ)) (hend:∀ s,I n s→(step s).wp (Out (fun _=>False) Φ)) :
    ∀ {s:σ},I 0 s→(Comp.loop step s).wp Φ:=by
  have key:∀ d k s,k + d=n→I k s→(Comp.loop step s).wp Φ:=by
    intro d
    induction d with
    | zero=>intro k s hk hs; rw [Nat.add_zero] at hk; subst hk; exact Comp.loop_fold ((step s).mono (Out.mono (fun _ h=>h.elim) (fun _ x=>x)) (hend s hs))
    | succ d ih=>intro k s hk hs; exact Comp.loop_fold ((step s).mono (Out.mono (fun s' h'=>ih (k + 1) s' (by omega) h') (fun _ x=>x)) (h k s (by omega) hs))
  exact fun {s} hs=>key n 0 s (by omega) hs
theorem wrapN {k:Nat} (h:k < 1000000000000):IntKind.i64.wrap ((k:Int) + 1) = ((k + 1:Nat):Int):=by rw [wrap64 (by omega)]; simp
theorem idxN {α:Type} {l:List α} {k:Nat} (h:k < l.length):(0:Int)≤(k:Int)∧l[(k:Int).toNat]? = some l[k]:=⟨by omega,by simp [h]⟩
theorem getFN {a:M} {k:Nat} (h:k < 8):getF a (k:Int) = a ⟨k,h⟩:=by rw [getF8 (by omega)]; rfl
theorem Support_ret (m:M):(monomial_Support m).Ret (suppM m):=by
  show (Comp.loop _ _).wp _
  refine Comp.loop_idx 8 (fun k s=>s=(suppTo m k,(k:Int))) (fun k s hk hs=>?_) (fun s hs=>?_) rfl
  · subst hs
    show (if (k:Int) < 8 then _ else _:Comp _).wp _
    rw [Comp.wp_ite,if_pos (by omega)]
    refine ⟨by omega,?_⟩
    rw [Comp.wp_ite,getFN hk]
    have hb:=suppTo_lt m k
    split
    · rename_i h
      refine ⟨by omega,?_⟩
      show _=_
      rw [wrapN (by omega),p2_shift hk,or_p2 hk hb.1 hb.2,suppTo_yes m hk h]
    · rename_i h
      show _=_
      rw [wrapN (by omega),suppTo_no m hk h]
  · subst hs
    show (if ((8:Nat):Int) < 8 then _ else _:Comp _).wp _
    rw [Comp.wp_ite,if_neg (by omega)]
    rfl
theorem R04_Cmp_ret (a b:M):(R04_Cmp a b).Ret (cmpM a b):=by
  refine Comp.loop_idx 8 (fun k s=>s=(k:Int)∧∀ i:Fin 8,i.val < k→a i=b i) (fun k s hk hs=>?_) (fun s hs=>?_) ⟨rfl,fun i hi=>by omega⟩
  · obtain ⟨rfl,hi⟩:=hs
    rw [Comp.wp_ite,if_pos (by omega)]
    refine ⟨by omega,by omega,?_⟩
    rw [Comp.wp_ite,getFN hk,getFN hk]
    split
    · rename_i h
      show _=_
      exact (cmpM_lt a b hk hi h).symm
    · rename_i h
      refine ⟨by omega,by omega,?_⟩
      rw [Comp.wp_ite]
      split
      · rename_i h2
        show _=_
        exact (cmpM_gt a b hk hi h2).symm
      · exact ⟨wrapN (by omega),all_step hi hk (by omega)⟩
  · obtain ⟨rfl,hi⟩:=hs
    rw [Comp.wp_ite,if_neg (by omega)]
    show _=_
    exact (cmpM_eq a b (fun i=>hi i i.isLt)).symm
theorem R04_Bit_ret {i:Nat} (hi:i < 8):(R04_Bit (i:Int)).Ret (p2 i):=by
  refine Comp.loop_idx i (fun k s=>s=(p2 k,(k:Int))) (fun k s hk hs=>?_) (fun s hs=>?_) rfl
  · subst hs
    show (if (k:Int) < (i:Int) then _ else _:Comp _).wp _
    have:=p2_lt (k:=k) (by omega)
    rw [Comp.wp_ite,if_pos (by omega)]
    show _=_
    rw [wrapN (by omega),wrap64 (by omega)]; rfl
  · subst hs
    show (if (i:Int) < (i:Int) then _ else _:Comp _).wp _
    rw [Comp.wp_ite,if_neg (by omega)]
    exact p2_wrap hi
theorem R04_Support_ret (m:M):(R04_Support m).Ret (suppM m):=by
  refine Comp.loop_idx 8 (fun k s=>s=(suppTo m k,(k:Int))) (fun k s hk hs=>?_) (fun s hs=>?_) rfl
  · subst hs
    have h1:=suppTo_lt m k
    show (if (k:Int) < 8 then _ else _:Comp _).wp _
    rw [Comp.wp_ite,if_pos (by omega)]
    refine ⟨by omega,?_⟩
    rw [Comp.wp_ite,getFN hk]
    split
    · rename_i hp
      refine ⟨_,R04_Bit_ret hk,?_⟩
      show _=_
      rw [wrapN (by omega),add_p2 hk h1.1 h1.2,suppTo_yes m hk hp]
    · rename_i hp
      show _=_
      rw [wrapN (by omega),suppTo_no m hk hp]
  · subst hs
    show (if ((8:Nat):Int) < 8 then _ else _:Comp _).wp _
    rw [Comp.wp_ite,if_neg (by omega)]
    rfl
theorem R04_Valid_yes {m:M} (h:Ok m):(R04_Valid m).Ret true:=by
  refine Comp.loop_idx 8 (fun k s=>s=(k:Int)) (fun k s hk hs=>?_) (fun s hs=>?_) rfl
  · subst hs
    have:=h ⟨k,hk⟩
    rw [Comp.wp_ite,if_pos (by omega)]
    refine ⟨by omega,?_⟩
    rw [Comp.wp_ite,getFN hk,if_neg (by omega)]
    refine ⟨by omega,?_⟩
    rw [Comp.wp_ite,if_neg (by omega)]
    exact wrapN (by omega)
  · subst hs
    rw [Comp.wp_ite,if_neg (by omega)]
    rfl
theorem Valid_yes {m:M} (h:Ok m):(monomial_Valid m).Ret true:=by
  refine Comp.loop_idx 8 (fun k s=>s=(k:Int)) (fun k s hk hs=>?_) (fun s hs=>?_) rfl
  · subst hs
    have:=h ⟨k,hk⟩
    show (if (k:Int) < 8 then _ else _:Comp _).wp _
    rw [Comp.wp_ite,if_pos (by omega)]
    refine ⟨by omega,?_⟩
    rw [Comp.wp_ite,getFN hk,if_neg (by omega),Comp.wp_ite,if_neg (by omega)]
    exact wrapN (by omega)
  · subst hs
    show (if ((8:Nat):Int) < 8 then _ else _:Comp _).wp _
    rw [Comp.wp_ite,if_neg (by omega)]
    rfl
def degTo (m:M):Nat→Int
  | 0=>0
  | k + 1=>degTo m k + (if h:k < 8 then m ⟨k,h⟩ else 0)
def degM (m:M):Int:=degTo m 8
theorem degTo_bd {m:M} (h:Ok m):∀ k:Nat,0≤degTo m k∧degTo m k≤65535 * k
  | 0=>by simp [degTo]
  | k + 1=>by
    have ih:=degTo_bd h k
    simp only [degTo]
    split
    · rename_i hk; have:=h ⟨k,hk⟩; omega
    · omega
theorem R04_Degree_ret {m:M} (h:Ok m):(R04_Degree m).Ret (degM m):=by
  refine Comp.loop_idx 8 (fun k s=>s=(degTo m k,(k:Int))) (fun k s hk hs=>?_) (fun s hs=>?_) rfl
  · subst hs
    have h1:=degTo_bd h k
    have h2:=h ⟨k,hk⟩
    show (if (k:Int) < 8 then _ else _:Comp _).wp _
    rw [Comp.wp_ite,if_pos (by omega)]
    refine ⟨by omega,?_⟩
    show _=_
    rw [wrapN (by omega),getFN hk,wrap64 (by omega),degTo,dif_pos hk]
  · subst hs
    show (if ((8:Nat):Int) < 8 then _ else _:Comp _).wp _
    rw [Comp.wp_ite,if_neg (by omega)]
    rfl
theorem Degree_ret {m:M} (h:Ok m):(monomial_Degree m).Ret (degM m):=by
  refine Comp.loop_idx 8 (fun k s=>s=(degTo m k,(k:Int))) (fun k s hk hs=>?_) (fun s hs=>?_) rfl
  · subst hs
    have h1:=degTo_bd h k
    have h2:=h ⟨k,hk⟩
    show (if (k:Int) < 8 then _ else _:Comp _).wp _
    rw [Comp.wp_ite,if_pos (by omega)]
    refine ⟨by omega,?_⟩
    show _=_
    rw [wrapN (by omega),getFN hk,wrap64 (by omega),degTo,dif_pos hk]
  · subst hs
    show (if ((8:Nat):Int) < 8 then _ else _:Comp _).wp _
    rw [Comp.wp_ite,if_neg (by omega)]
    rfl
def mulM (a b:M):M:=fun i=>a i + b i
theorem R04_Mul_ret {a b:M} (ha:Ok a) (hb:Ok b) (hab:Ok (mulM a b)):(R04_Mul a b).Ret (mulM a b,0):=by
  show (Comp.next _ _).wp _
  refine Comp.loop_idx 8 (fun k s=>s=((k:Int),mixM k (mulM a b) a)) (fun k s hk hs=>?_) (fun s hs=>?_) (by rw [mix_zero]; rfl)
  · subst hs
    have h1:=ha ⟨k,hk⟩
    have h2:=hb ⟨k,hk⟩
    rw [Comp.wp_ite,if_pos (by omega)]
    refine ⟨by omega,by omega,by omega,?_⟩
    show _=_
    rw [wrapN (by omega),getFN hk,getFN hk,mix_at,wrap64 (by omega)]
    exact congrArg (Prod.mk _) (mix_step (mulM a b) a hk)
  · subst hs
    rw [Comp.wp_ite,if_neg (by omega),mix_all _ _ (by omega)]
    exact ⟨true,R04_Valid_yes hab,rfl⟩
end Go.EL

namespace Go.EL
open Go Go.RowKit
structure TermOk (t:T_api_Term):Prop where
  c:∃ c:Int,t.c=ratI c∧c≠0∧-12≤c∧c≤12
  m:Ok t.m
structure PolOk (p:List T_api_Term):Prop where
  ord:p.Pairwise fun x y=>0 < cmpM x.m y.m
  trm:∀ t ∈ p,TermOk t
  len:p.length≤100
theorem TermOk.rv {t:T_api_Term} (h:TermOk t):(R02_Valid t.c).Ret true:=by
  obtain ⟨⟨c,e,h0,h1,h2⟩,_⟩:=h
  have:=between_of valid_all (x:=c) (by omega) (by omega)
  rw [e]
  exact runs_ret (by simpa [h0] using this)
theorem TermOk.rs {t:T_api_Term} (h:TermOk t):∃ s,(R02_Sign t.c).Ret s∧s≠0:=by
  obtain ⟨⟨c,e,h0,h1,h2⟩,_⟩:=h
  have:=between_of sign_all (x:=c) (by omega) (by omega)
  rw [e]
  exact ⟨_,runs_ret this,by split <;> omega⟩
theorem TermOk.pv {t:T_api_Term} (h:TermOk t):(rational_Valid t.c).Ret true:=by
  obtain ⟨⟨c,e,h0,h1,h2⟩,_⟩:=h
  have:=between_of rvalid_all (x:=c) (by omega) (by omega)
  rw [e]
  exact runs_ret (by simpa [h0] using this)
theorem TermOk.ps {t:T_api_Term} (h:TermOk t):∃ s,(rational_Sign t.c).Ret s∧s≠0:=by
  obtain ⟨⟨c,e,h0,h1,h2⟩,_⟩:=h
  have:=between_of rsign_all (x:=c) (by omega) (by omega)
  rw [e]
  refine ⟨_,runs_ret (by simpa [h0] using this),?_⟩
  split <;> first|omega|(split <;> omega)
theorem PolOk.at {p:List T_api_Term} (h:PolOk p) {k:Nat} (hk:k < p.length):TermOk p[k]:=h.trm _ (List.getElem_mem hk)
theorem PolOk.step {p:List T_api_Term} (h:PolOk p) {k:Nat} (hk:k + 1 < p.length):0 < cmpM p[k].m p[k + 1].m:=List.pairwise_iff_getElem.1 h.ord k (k + 1) (by omega) hk (by omega)
theorem R06_Valid_yes {p:List T_api_Term} (h:PolOk p):(R06_Valid p).Ret true:=by
  have hl:=h.len
  refine Comp.loop_idx p.length (fun k s=>s=(k:Int)) (fun k s hk hs=>?_) (fun s hs=>?_) rfl
  · subst hs
    have ht:=h.at hk
    obtain ⟨s,h1,h2⟩:=ht.rs
    rw [Comp.wp_ite,if_pos (by omega)]
    refine ⟨p[k],idxN hk,true,ht.rv,p[k],idxN hk,s,h1,?_⟩
    rw [Comp.wp_ite,if_neg h2]
    refine ⟨p[k],idxN hk,true,R04_Valid_yes ht.m,?_⟩
    rw [Comp.wp_ite,if_neg (by decide)]
    show (R06_Valid_k3 p (k:Int)).wp _
    unfold R06_Valid_k3
    rw [Comp.wp_ite]
    split
    · rename_i h0
      obtain ⟨j,rfl⟩:∃ j,k=j + 1:=⟨k - 1,by omega⟩
      have hj:IntKind.i64.wrap (((j + 1:Nat):Int) - 1) = (j:Int):=by rw [wrap64 (by omega)]; omega
      rw [hj]
      refine ⟨p[j],idxN (by omega),p[j + 1],idxN hk,_,R04_Cmp_ret _ _,?_⟩
      have:=h.step hk
      rw [Comp.wp_ite,if_neg (by omega)]
      exact wrapN (by omega)
    · exact wrapN (by omega)
  · subst hs
    rw [Comp.wp_ite,if_neg (by omega)]
    rfl
theorem polynomial_Valid_yes {p:List T_api_Term} (h:PolOk p):(polynomial_Valid p).Ret true:=by
  have hl:=h.len
  refine Comp.loop_idx p.length (fun k s=>s=(k:Int)) (fun k s hk hs=>?_) (fun s hs=>?_) rfl
  · subst hs
    have ht:=h.at hk
    obtain ⟨s,h1,h2⟩:=ht.ps
    show (if (k:Int) < (p.length:Int) then _ else _:Comp _).wp _
    rw [Comp.wp_ite,if_pos (by omega)]
    refine ⟨p[k],idxN hk,true,ht.pv,s,h1,?_⟩
    rw [Comp.wp_ite,if_neg h2]
    refine ⟨true,Valid_yes ht.m,?_⟩
    rw [Comp.wp_ite,if_neg (by decide)]
    show (polynomial_Valid_k3 p (k:Int) p[k]).wp _
    unfold polynomial_Valid_k3
    rw [Comp.wp_ite]
    split
    · rename_i h0
      obtain ⟨j,rfl⟩:∃ j,k=j + 1:=⟨k - 1,by omega⟩
      have hj:IntKind.i64.wrap (((j + 1:Nat):Int) - 1) = (j:Int):=by rw [wrap64 (by omega)]; omega
      rw [hj]
      refine ⟨p[j],idxN (by omega),_,monomial_Cmp_ret _ _,?_⟩
      have:=h.step hk
      rw [Comp.wp_ite,if_neg (by omega)]
      exact wrapN (by omega)
    · exact wrapN (by omega)
  · subst hs
    show (if ((p.length:Nat):Int) < (p.length:Int) then _ else _:Comp _).wp _
    rw [Comp.wp_ite,if_neg (by omega)]
    rfl
def usesTo (p:List T_api_Term):Nat→Int
  | 0=>0
  | k + 1=>IntKind.u8.wrap (BitVec.ofInt IntKind.u8.bits (usesTo p k) ||| BitVec.ofInt IntKind.u8.bits (match p[k]? with|some t=>suppM t.m|none=>0)).toNat
def usesP (p:List T_api_Term):Int:=usesTo p p.length
def degPTo (p:List T_api_Term):Nat→Int
  | 0=>-1
  | k + 1=>match p[k]? with|some t=>if degPTo p k < degM t.m then degM t.m else degPTo p k|none=>degPTo p k
def degP (p:List T_api_Term):Int:=degPTo p p.length
theorem R06_Uses_ret {p:List T_api_Term} (hl:p.length≤100):(R06_Uses p).Ret (usesP p):=by
  refine Comp.loop_idx p.length (fun k s=>s=(usesTo p k,(k:Int))) (fun k s hk hs=>?_) (fun s hs=>?_) rfl
  · subst hs
    show (if (k:Int) < (p.length:Int) then _ else _:Comp _).wp _
    rw [Comp.wp_ite,if_pos (by omega)]
    refine ⟨p[k],idxN hk,_,R04_Support_ret _,?_⟩
    show _=_
    rw [wrapN (by omega)]
    simp only [usesTo,List.getElem?_eq_getElem hk]
  · subst hs
    show (if ((p.length:Nat):Int) < (p.length:Int) then _ else _:Comp _).wp _
    rw [Comp.wp_ite,if_neg (by omega)]
    rfl
theorem Uses_ret {p:List T_api_Term} (hl:p.length≤100):(polynomial_Uses p).Ret (usesP p):=by
  refine Comp.loop_idx p.length (fun k s=>s=(usesTo p k,(k:Int))) (fun k s hk hs=>?_) (fun s hs=>?_) rfl
  · subst hs
    show (if (k:Int) < (p.length:Int) then _ else _:Comp _).wp _
    rw [Comp.wp_ite,if_pos (by omega)]
    refine ⟨p[k],idxN hk,_,Support_ret _,?_⟩
    show _=_
    rw [wrapN (by omega)]
    simp only [usesTo,List.getElem?_eq_getElem hk]
  · subst hs
    show (if ((p.length:Nat):Int) < (p.length:Int) then _ else _:Comp _).wp _
    rw [Comp.wp_ite,if_neg (by omega)]
    rfl
theorem R06_Degree_ret {p:List T_api_Term} (h:PolOk p):(R06_Degree p).Ret (degP p):=by
  have hl:=h.len
  refine Comp.loop_idx p.length (fun k s=>s=(degPTo p k,(k:Int))) (fun k s hk hs=>?_) (fun s hs=>?_) rfl
  · subst hs
    show (if (k:Int) < (p.length:Int) then _ else _:Comp _).wp _
    rw [Comp.wp_ite,if_pos (by omega)]
    refine ⟨p[k],idxN hk,_,R04_Degree_ret (h.at hk).m,?_⟩
    show _=_
    rw [wrapN (by omega)]
    simp only [degPTo,List.getElem?_eq_getElem hk]
  · subst hs
    show (if ((p.length:Nat):Int) < (p.length:Int) then _ else _:Comp _).wp _
    rw [Comp.wp_ite,if_neg (by omega)]
    rfl
theorem PDegree_ret {p:List T_api_Term} (h:PolOk p):(polynomial_Degree p).Ret (degP p):=by
  have hl:=h.len
  refine Comp.loop_idx p.length (fun k s=>s=(degPTo p k,(k:Int))) (fun k s hk hs=>?_) (fun s hs=>?_) rfl
  · subst hs
    show (if (k:Int) < (p.length:Int) then _ else _:Comp _).wp _
    rw [Comp.wp_ite,if_pos (by omega)]
    refine ⟨p[k],idxN hk,_,Degree_ret (h.at hk).m,?_⟩
    show _=_
    rw [wrapN (by omega)]
    simp only [degPTo,List.getElem?_eq_getElem hk]
  · subst hs
    show (if ((p.length:Nat):Int) < (p.length:Int) then _ else _:Comp _).wp _
    rw [Comp.wp_ite,if_neg (by omega)]
    rfl
end Go.EL

namespace Go.EL
open Go Go.RowKit
def fitB (p:List T_api_Term) (n:Int):Bool:=if (Int.fdiv (IntKind.i64.wrap (usesP p)) (2 ^ (min (n).toNat IntKind.i64.bits))) = 0 then decide (degP p≤12) else false
theorem R33_fits_ret {p:List T_api_Term} (h:PolOk p) {n:Int} (hn:0≤n):(R33_fits p n).Ret (fitB p n):=by
  refine ⟨true,R06_Valid_yes h,_,R06_Uses_ret h.len,hn,?_⟩
  unfold fitB
  rw [Comp.wp_ite]
  split
  · exact ⟨_,R06_Degree_ret h,rfl⟩
  · rfl
theorem system_fits_ret {p:List T_api_Term} (h:PolOk p) {n:Int} (hn:0≤n):(system_fits p n).Ret (fitB p n):=by
  refine ⟨true,polynomial_Valid_yes h,_,Uses_ret h.len,hn,?_⟩
  unfold fitB
  rw [Comp.wp_ite]
  split
  · exact ⟨_,PDegree_ret h,rfl⟩
  · rfl
theorem suppTo_bit (a:M):∀ k:Nat,k≤8→∀ i:Fin 8,(suppTo a k).toNat.testBit i.val=(decide (i.val < k) && decide (0 < a i))
  | 0,_,i=>by simp [suppTo]
  | k + 1,hk,i=>by
    have ih:=suppTo_bit a k (by omega) i
    have hb:=suppTo_lt a k
    have hk':k < 8:=by omega
    rw [p2_nat] at hb
    simp only [suppTo,dif_pos hk']
    by_cases hi:i.val=k
    · have e:i = ⟨k,hk'⟩:=Fin.ext hi
      subst e
      by_cases hp:0 < a ⟨k,hk'⟩
      · rw [if_pos hp,p2_nat,show (suppTo a k + ((2 ^ k:Nat):Int)).toNat=2 ^ k + (suppTo a k).toNat by omega,Nat.testBit_two_pow_add_eq,Nat.testBit_lt_two_pow (by omega)]
        simp [hp]
      · rw [if_neg hp,Int.add_zero]
        show (suppTo a k).toNat.testBit k=_
        rw [Nat.testBit_lt_two_pow (by omega)]
        simp [hp]
    · have e1:(decide (i.val < k + 1)) = decide (i.val < k):=by
        by_cases h:i.val < k
        · simp [h,show i.val < k + 1 by omega]
        · simp [h,show ¬ i.val < k + 1 by omega]
      rw [e1,← ih]
      by_cases hp:0 < a ⟨k,hk'⟩
      · rw [if_pos hp,p2_nat,show (suppTo a k + ((2 ^ k:Nat):Int)).toNat=2 ^ k + (suppTo a k).toNat by omega]
        by_cases h:i.val < k
        · rw [Nat.testBit_two_pow_add_gt h]
        · rw [Nat.testBit_lt_two_pow (x:=(suppTo a k).toNat) (Nat.lt_of_lt_of_le (by omega:(suppTo a k).toNat < 2 ^ k) (Nat.pow_le_pow_right (by omega) (by omega)))]
          refine Nat.testBit_lt_two_pow (Nat.lt_of_lt_of_le (by have:=hb.2; omega:2 ^ k + (suppTo a k).toNat < 2 ^ (k + 1)) (Nat.pow_le_pow_right (by omega) (by omega)))
      · rw [if_neg hp,Int.add_zero]
theorem suppM_bit (a:M) (i:Fin 8):(suppM a).toNat.testBit i.val=decide (0 < a i):=by
  unfold suppM
  rw [suppTo_bit a 8 (by omega)]
  simp [i.isLt]
theorem suppM_lt (a:M):0≤suppM a∧suppM a < 256:=suppTo_lt a 8
theorem or_u8 {a b:Nat} (ha:a < 256) (hb:b < 256):IntKind.u8.wrap (BitVec.ofInt IntKind.u8.bits (a:Int) ||| BitVec.ofInt IntKind.u8.bits (b:Int)).toNat=((a ||| b:Nat):Int):=by
  have h:(BitVec.ofInt IntKind.u8.bits (a:Int) ||| BitVec.ofInt IntKind.u8.bits (b:Int)).toNat=a ||| b:=by
    rw [BitVec.toNat_or]
    simp only [IntKind.bits,BitVec.toNat_ofInt]
    rw [show (((a:Int) % ((2 ^ 8:Nat):Int)).toNat) = a by omega,show (((b:Int) % ((2 ^ 8:Nat):Int)).toNat) = b by omega]
  have h2:a ||| b < 256:=Nat.or_lt_two_pow (n:=8) ha hb
  rw [h]
  simp only [IntKind.wrap,IntKind.bits,IntKind.signed,Bool.false_and,Bool.false_eq_true,if_false]
  omega
def usesN (p:List T_api_Term):Nat→Nat
  | 0=>0
  | k + 1=>usesN p k ||| (match p[k]? with|some t=>(suppM t.m).toNat|none=>0)
theorem usesN_lt (p:List T_api_Term):∀ k,usesN p k < 256
  | 0=>by simp [usesN]
  | k + 1=>by
    refine Nat.or_lt_two_pow (n:=8) (usesN_lt p k) ?_
    split
    · rename_i t _
      have h:(suppM t.m).toNat < 256:=by have:=suppM_lt t.m; omega
      exact h
    · decide
theorem usesTo_nat (p:List T_api_Term):∀ k,usesTo p k=(usesN p k:Int)
  | 0=>rfl
  | k + 1=>by
    have h1:=usesN_lt p k
    unfold usesTo usesN
    rw [usesTo_nat p k]
    cases p[k]? with
    | none=>exact or_u8 (b:=0) h1 (by omega)
    | some t=>
      have h:=suppM_lt t.m
      obtain ⟨n,hn⟩:=Int.eq_ofNat_of_zero_le h.1
      show IntKind.u8.wrap (BitVec.ofInt IntKind.u8.bits (usesN p k:Int) ||| BitVec.ofInt IntKind.u8.bits (suppM t.m)).toNat=((usesN p k ||| (suppM t.m).toNat:Nat):Int)
      rw [hn]
      exact or_u8 h1 (by omega)
theorem usesN_bit (p:List T_api_Term) (i:Fin 8):∀ k,(usesN p k).testBit i.val=(p.take k).any fun t=>decide (0 < t.m i)
  | 0=>by simp [usesN]
  | k + 1=>by
    simp only [usesN,Nat.testBit_or,usesN_bit p i k]
    cases h:p[k]? with
    | none=>
      have:p.length≤k:=List.getElem?_eq_none_iff.1 h
      simp [List.take_of_length_le this,List.take_of_length_le (show p.length≤k + 1 by omega)]
    | some t=>
      rw [List.take_add_one,h]
      simp [suppM_bit]
theorem usesP_nat (p:List T_api_Term):usesP p=(usesN p p.length:Int):=usesTo_nat p _
theorem usesP_bit (p:List T_api_Term) (i:Fin 8):(usesP p).toNat.testBit i.val=p.any fun t=>decide (0 < t.m i):=by
  rw [usesP_nat,Int.toNat_natCast,usesN_bit,List.take_length]
theorem usesP_lt (p:List T_api_Term):0≤usesP p∧usesP p < 256:=by have:=usesN_lt p p.length; rw [usesP_nat]; omega
theorem fdiv_nat (u n:Nat):Int.fdiv (u:Int) ((2:Int) ^ n) = ((u >>> n:Nat):Int):=by
  rw [Nat.shiftRight_eq_div_pow,show ((2:Int) ^ n) = ((2 ^ n:Nat):Int) by simp,Int.fdiv_eq_ediv_of_nonneg _ (Int.natCast_nonneg _)]
  simp
theorem shift_uses (p:List T_api_Term) {n:Int} (h0:0≤n) (h8:n≤8):Int.fdiv (IntKind.i64.wrap (usesP p)) (2 ^ (min (n).toNat IntKind.i64.bits)) = (((usesP p).toNat >>> n.toNat:Nat):Int):=by
  have:=usesP_lt p
  rw [wrap64 (by omega),show min n.toNat IntKind.i64.bits=n.toNat by simp only [IntKind.bits]; omega]
  obtain ⟨u,hu⟩:=Int.eq_ofNat_of_zero_le this.1
  rw [hu]
  exact fdiv_nat u _
theorem degPTo_le (p:List T_api_Term) (d:Int) (hd:-1≤d):∀ k,k≤p.length→(degPTo p k≤d↔∀ i (h:i < p.length),i < k→degM p[i].m≤d)
  | 0,_=>by simp [degPTo,hd]
  | k + 1,hk=>by
    have ih:=degPTo_le p d hd k (by omega)
    have hk':k < p.length:=by omega
    simp only [degPTo,List.getElem?_eq_getElem hk']
    constructor
    · intro h i hi hik
      by_cases e:i=k
      · subst e; split at h <;> omega
      · refine ih.1 ?_ i hi (by omega)
        split at h <;> omega
    · intro h
      have h1:=h k hk' (by omega)
      have h2:=ih.2 fun i hi hik=>h i hi (by omega)
      split <;> omega
theorem degP_le {p:List T_api_Term} {d:Int} (hd:-1≤d):degP p≤d↔∀ t ∈ p,degM t.m≤d:=by
  unfold degP
  rw [degPTo_le p d hd p.length (by omega)]
  constructor
  · intro h t ht
    obtain ⟨i,hi,rfl⟩:=List.mem_iff_getElem.1 ht
    exact h i hi hi
  · intro h i hi _
    exact h _ (List.getElem_mem hi)
def Within (n:Nat) (p:List T_api_Term):Prop:=∀ t ∈ p,∀ i:Fin 8,n≤i.val→¬ 0 < t.m i
theorem uses_shift {p:List T_api_Term} {n:Nat}:((usesP p).toNat >>> n=0)↔Within n p:=by
  have hb:=usesP_lt p
  constructor
  · intro h t ht i hi hp
    have h1:=usesP_bit p i
    rw [show (p.any fun t=>decide (0 < t.m i)) = true from List.any_eq_true.2 ⟨t,ht,decide_eq_true hp⟩] at h1
    have h2:((usesP p).toNat >>> n).testBit (i.val - n) = true:=by rw [Nat.testBit_shiftRight,show n + (i.val - n) = i.val by omega]; exact h1
    rw [h] at h2
    simp at h2
  · intro h
    refine Nat.eq_of_testBit_eq fun j=>?_
    rw [Nat.testBit_shiftRight,Nat.zero_testBit]
    by_cases hj:n + j < 8
    · rw [usesP_bit p ⟨n + j,hj⟩]
      refine List.any_eq_false.2 fun t ht=>?_
      simp only [decide_eq_true_eq]
      exact h t ht _ (by simp)
    · exact Nat.testBit_lt_two_pow (Nat.lt_of_lt_of_le (show (usesP p).toNat < 2 ^ 8 by omega) (Nat.pow_le_pow_right (by omega) (by omega)))
theorem fitB_iff {p:List T_api_Term} {n:Nat} (hn:n≤8):fitB p (n:Int) = true↔Within n p∧∀ t ∈ p,degM t.m≤12:=by
  unfold fitB
  rw [shift_uses p (by omega) (by omega),Int.toNat_natCast]
  by_cases h:(usesP p).toNat >>> n=0
  · rw [if_pos (by rw [h]; rfl),decide_eq_true_eq,degP_le (by omega)]
    exact ⟨fun k=>⟨uses_shift.1 h,k⟩,fun k=>k.2⟩
  · rw [if_neg (by omega)]
    exact ⟨fun k=>absurd k (by decide),fun k=>absurd (uses_shift.2 k.1) h⟩
def Occurs (i:Fin 8) (p:List T_api_Term):Bool:=p.any fun t=>decide (0 < t.m i)
theorem used_ref (p:List T_api_Term) (i:Fin 8):(Int.tmod (Int.fdiv (IntKind.i64.wrap (usesP p)) (2 ^ (min ((i.val:Int)).toNat IntKind.i64.bits))) 2=1)↔Occurs i p=true:=by
  have:=i.isLt
  rw [shift_uses p (by omega) (by omega),Int.toNat_natCast]
  have h:=usesP_bit p i
  rw [Nat.testBit_eq_decide_div_mod_eq,← Nat.shiftRight_eq_div_pow] at h
  unfold Occurs
  rw [← h,decide_eq_true_eq]
  generalize (usesP p).toNat >>> i.val=z
  rw [Int.tmod_eq_emod_of_nonneg (Int.natCast_nonneg z)]
  omega
theorem and_u8 {a b:Nat} (ha:a < 256) (hb:b < 256):IntKind.u8.wrap (BitVec.ofInt IntKind.u8.bits (a:Int) &&& BitVec.ofInt IntKind.u8.bits (b:Int)).toNat=((a &&& b:Nat):Int):=by
  have h:(BitVec.ofInt IntKind.u8.bits (a:Int) &&& BitVec.ofInt IntKind.u8.bits (b:Int)).toNat=a &&& b:=by
    rw [BitVec.toNat_and]
    simp only [IntKind.bits,BitVec.toNat_ofInt]
    rw [show (((a:Int) % ((2 ^ 8:Nat):Int)).toNat) = a by omega,show (((b:Int) % ((2 ^ 8:Nat):Int)).toNat) = b by omega]
  have h2:a &&& b≤a:=Nat.and_le_left
  rw [h]
  simp only [IntKind.wrap,IntKind.bits,IntKind.signed,Bool.false_and,Bool.false_eq_true,if_false]
  omega
theorem used_edit (p:List T_api_Term) (i:Fin 8):(¬ (IntKind.u8.wrap (BitVec.ofInt IntKind.u8.bits (usesP p) &&& BitVec.ofInt IntKind.u8.bits (IntKind.u8.wrap (1 * 2 ^ (min ((i.val:Int)).toNat IntKind.u8.bits)))).toNat) = 0)↔Occurs i p=true:=by
  have hb:=usesP_lt p
  have hi:=i.isLt
  have h2:=p2_lt hi
  rw [p2_shift hi,p2_nat]
  obtain ⟨u,hu⟩:=Int.eq_ofNat_of_zero_le hb.1
  have h:=usesP_bit p i
  rw [hu,Int.toNat_natCast] at h
  rw [p2_nat] at h2
  rw [hu,and_u8 (by omega) (by omega)]
  unfold Occurs
  rw [← h]
  constructor
  · intro hn
    cases hb:u.testBit i.val with
    | true=>rfl
    | false=>
      exfalso
      apply hn
      have:u &&& 2 ^ i.val=0:=by
        refine Nat.eq_of_testBit_eq fun j=>?_
        rw [Nat.testBit_and,Nat.testBit_two_pow,Nat.zero_testBit]
        by_cases e:i.val=j
        · subst e; simp [hb]
        · simp [e]
      rw [this]; rfl
  · intro ht hn
    have h3:u &&& 2 ^ i.val=0:=by omega
    have h4:(u &&& 2 ^ i.val).testBit i.val=true:=by rw [Nat.testBit_and,ht,Nat.testBit_two_pow_self]; rfl
    rw [h3] at h4
    simp at h4
end Go.EL

namespace Go.EL
open Go Go.RowKit
def valR (r:T_api_Rat):Int:=if r.num.neg=true then -(r.num.mag.headD 0) else r.num.mag.headD 0
theorem valR_ratI (c:Int):valR (ratI c) = c:=by
  unfold valR ratI
  by_cases h:c < 0
  · simp [h,show ¬ c=0 by omega]; omega
  · by_cases h0:c=0
    · simp [h0]
    · simp [h,h0]; omega
theorem ratI_inj {a b:Int} (h:ratI a=ratI b):a=b:=by rw [← valR_ratI a,← valR_ratI b,h]
def addT:List T_api_Term→T_api_Term→List T_api_Term
  | [],t=>[t]
  | x::xs,t=>if 0 < cmpM x.m t.m then x::addT xs t else if cmpM x.m t.m < 0 then t::x::xs else if valR x.c + valR t.c=0 then xs else ⟨ratI (valR x.c + valR t.c),x.m⟩::xs
theorem addT_length:∀ (p:List T_api_Term) (t:T_api_Term),(addT p t).length≤p.length + 1
  | [],_=>by simp [addT]
  | x::xs,t=>by
    have ih:=addT_length xs t
    simp only [addT]
    split
    · simp; omega
    · split
      · simp
      · split <;> simp; omega
theorem addT_skip:∀ (k:Nat) (p:List T_api_Term) (t:T_api_Term),k≤p.length→(∀ x ∈ p.take k,0 < cmpM x.m t.m)→addT p t=p.take k++addT (p.drop k) t
  | 0,p,t,_,_=>by simp
  | k + 1,[],t,h,_=>by simp at h
  | k + 1,x::xs,t,h,hx=>by
    have h1:0 < cmpM x.m t.m:=hx x (by simp)
    rw [addT,if_pos h1,addT_skip k xs t (by simpa using h) (fun y hy=>hx y (by simp [hy]))]
    simp
def Near (p:List T_api_Term) (t:T_api_Term):Prop:=∀ x ∈ p,x.m=t.m→∃ a b,x.c=ratI a∧t.c=ratI b∧-12≤a∧a≤12∧-3≤b∧b≤3
theorem near_add {p:List T_api_Term} {t x:T_api_Term} (h:Near p t) (hx:x ∈ p) (hm:x.m=t.m):(R02_Add x.c t.c).Ret (ratI (valR x.c + valR t.c))∧∃ s,(R02_Sign (ratI (valR x.c + valR t.c))).Ret s∧(s=0↔valR x.c + valR t.c=0):=by
  obtain ⟨a,b,e1,e2,h1,h2,h3,h4⟩:=h x hx hm
  rw [e1,e2,valR_ratI,valR_ratI]
  have k1:=between_of (between_of add_all h1 h2) h3 h4
  have k2:=between_of sign_all (x:=a + b) (by omega) (by omega)
  refine ⟨runs_ret k1,_,runs_ret k2,?_⟩
  split
  · omega
  · split <;> omega
theorem R06_Add_nil {p:List T_api_Term} (hl:p.length≤100):(R06_Add p []).Ret p:=by
  show (Comp.next _ _).wp _
  refine Comp.loop_idx p.length (fun k s=>s=(p.take k,(k:Int),0)) (fun k s hk hs=>?_) (fun s hs=>?_) (by simp)
  · subst hs
    show (if (k:Int) < (p.length:Int) then _ else _:Comp _).wp _
    rw [Comp.wp_ite,if_pos (by omega)]
    unfold R06_Add_k7
    rw [Comp.wp_ite,if_pos (by simp)]
    unfold R06_Add_k6
    rw [Comp.wp_ite,if_pos rfl]
    refine ⟨p[k],idxN hk,by simp [small]; omega,?_⟩
    show _=_
    rw [wrapN (by omega),List.take_append_getElem hk]
  · subst hs
    show (if ((p.length:Nat):Int) < (p.length:Int) then _ else _:Comp _).wp _
    rw [Comp.wp_ite,if_neg (by omega),Comp.wp_ite,if_neg (by simp)]
    exact List.take_length
theorem R06_Add_one {p:List T_api_Term} {t:T_api_Term} (hl:p.length≤100) (hn:Near p t):(R06_Add p [t]).Ret (addT p t):=by
  show (Comp.next _ _).wp _
  refine Comp.loop_inv (fun s=>(∃ i:Nat,i≤p.length∧s=(p.take i,(i:Int),0)∧∀ x ∈ p.take i,0 < cmpM x.m t.m)∨(∃ i:Nat,∃ out:List T_api_Term,i≤p.length∧s=(out,(i:Int),1)∧out++p.drop i=addT p t∧out.length≤i + 1))
    (fun s=>(p.length - s.2.1.toNat) + (1 - s.2.2.toNat)) (fun s hs=>?_) _ (.inl ⟨0,by omega,by simp,by simp⟩)
  have hw:IntKind.i64.wrap 1=1:=by decide
  rcases hs with ⟨i,hi,rfl,hx⟩|⟨i,out,hi,rfl,ho,hlo⟩
  · by_cases hil:i < p.length
    · show (if (i:Int) < (p.length:Int) then _ else _:Comp _).wp _
      rw [Comp.wp_ite,if_pos (by omega)]
      unfold R06_Add_k7
      rw [Comp.wp_ite,if_neg (by simp),Comp.wp_ite,if_pos (by omega)]
      refine ⟨p[i],idxN hil,t,⟨by omega,rfl⟩,_,R04_Cmp_ret _ _,?_⟩
      unfold R06_Add_k6
      rw [Comp.wp_ite]
      have hadd:addT p t=p.take i++addT (p.drop i) t:=addT_skip i p t hi hx
      have hdrop:p.drop i=p[i]::p.drop (i + 1):=List.drop_eq_getElem_cons hil
      by_cases hc:0 < cmpM p[i].m t.m
      · rw [if_pos (decide_eq_true hc)]
        refine ⟨p[i],idxN hil,by simp [small]; omega,?_⟩
        rw [wrapN (by omega),List.take_append_getElem hil]
        refine ⟨.inl ⟨i + 1,by omega,rfl,fun x hx'=>?_⟩,by simp; omega⟩
        rw [← List.take_append_getElem hil] at hx'
        rcases List.mem_append.1 hx' with h|h
        · exact hx x h
        · rw [List.mem_singleton] at h; subst h; exact hc
      · rw [if_neg (by simpa using hc)]
        show (R06_Add_k5 p [t] 0 (p.take i) (i:Int)).wp _
        unfold R06_Add_k5
        rw [Comp.wp_ite,if_neg (by omega)]
        refine ⟨p[i],idxN hil,t,⟨by omega,rfl⟩,_,R04_Cmp_ret _ _,?_⟩
        unfold R06_Add_k4
        rw [Comp.wp_ite]
        by_cases hc2:cmpM p[i].m t.m < 0
        · rw [if_pos (decide_eq_true hc2)]
          refine ⟨t,⟨by omega,rfl⟩,by simp [small]; omega,?_⟩
          refine ⟨.inr ⟨i,_,hi,rfl,?_,by simp; omega⟩,by simp [hw]⟩
          rw [hadd,hdrop,addT,if_neg hc,if_pos hc2]
          simp
        · rw [if_neg (by simpa using hc2)]
          have hm:p[i].m=t.m:=cmpM_zero (by omega)
          obtain ⟨h1,s,h2,h3⟩:=near_add hn (List.getElem_mem hil) hm
          unfold R06_Add_k3
          refine ⟨p[i],idxN hil,t,⟨by omega,rfl⟩,_,h1,s,h2,?_⟩
          rw [Comp.wp_ite]
          by_cases h0:valR p[i].c + valR t.c=0
          · rw [if_neg (by simpa using h3.2 h0)]
            rw [wrapN (by omega)]
            refine ⟨.inr ⟨i + 1,_,by omega,rfl,?_,by simp; omega⟩,by simp; omega⟩
            rw [hadd,hdrop,addT,if_neg hc,if_neg hc2,if_pos h0]
          · rw [if_pos (fun h=>h0 (h3.1 h))]
            refine ⟨p[i],idxN hil,by simp [small]; omega,?_⟩
            rw [wrapN (by omega)]
            refine ⟨.inr ⟨i + 1,_,by omega,rfl,?_,by simp; omega⟩,by simp; omega⟩
            rw [hadd,hdrop,addT,if_neg hc,if_neg hc2,if_neg h0]
            simp
    · obtain rfl:i=p.length:=by omega
      show (if ((p.length:Nat):Int) < (p.length:Int) then _ else _:Comp _).wp _
      rw [Comp.wp_ite,if_neg (by omega),Comp.wp_ite,if_pos (by simp)]
      unfold R06_Add_k7
      rw [Comp.wp_ite,if_neg (by simp),Comp.wp_ite,if_neg (by omega)]
      unfold R06_Add_k6
      rw [Comp.wp_ite,if_neg (by decide)]
      unfold R06_Add_k5
      rw [Comp.wp_ite,if_pos rfl]
      unfold R06_Add_k4
      rw [Comp.wp_ite,if_pos rfl]
      refine ⟨t,⟨by omega,rfl⟩,by simp [small]; omega,?_⟩
      refine ⟨.inr ⟨p.length,_,by omega,rfl,?_,by simp⟩,by simp [hw]⟩
      rw [addT_skip p.length p t (by omega) hx,List.drop_length]
      simp [addT]
  · by_cases hil:i < p.length
    · show (if (i:Int) < (p.length:Int) then _ else _:Comp _).wp _
      rw [Comp.wp_ite,if_pos (by omega)]
      unfold R06_Add_k7
      rw [Comp.wp_ite,if_pos (by simp)]
      unfold R06_Add_k6
      rw [Comp.wp_ite,if_pos rfl]
      refine ⟨p[i],idxN hil,by simp [small]; omega,?_⟩
      rw [wrapN (by omega)]
      refine ⟨.inr ⟨i + 1,_,by omega,rfl,?_,by simp; omega⟩,by simp; omega⟩
      rw [← ho,List.drop_eq_getElem_cons hil]
      simp
    · obtain rfl:i=p.length:=by omega
      show (if ((p.length:Nat):Int) < (p.length:Int) then _ else _:Comp _).wp _
      rw [Comp.wp_ite,if_neg (by omega),Comp.wp_ite,if_neg (by simp)]
      show _=_
      rw [← ho,List.drop_length,List.append_nil]
end Go.EL

namespace Go.EL
open Go Go.RowKit
structure IsPerm (π:M):Prop where
  rng:∀ i,0≤π i∧π i < 8
  inj:∀ i j,π i=π j→i=j
def permTo (π m:M):Nat→M
  | 0=>fun _=>0
  | k + 1=>if h:k < 8 then setF (permTo π m k) (π ⟨k,h⟩).toNat (m ⟨k,h⟩) else permTo π m k
def permM (π m:M):M:=permTo π m 8
theorem permTo_at {π:M} (h:IsPerm π) (m:M):∀ k,k≤8→∀ i:Fin 8,i.val < k→∀ j:Fin 8,(j.val:Int) = π i→permTo π m k j=m i
  | 0,_,i,hi,_,_=>by omega
  | k + 1,hk,i,hi,j,hj=>by
    have hk':k < 8:=by omega
    simp only [permTo,dif_pos hk',setF]
    have r:=h.rng ⟨k,hk'⟩
    by_cases e:i.val=k
    · have:i = ⟨k,hk'⟩:=Fin.ext e
      subst this
      rw [if_pos (by omega)]
    · have hne:π i≠π ⟨k,hk'⟩:=fun he=>e (congrArg Fin.val (h.inj _ _ he))
      rw [if_neg (by omega)]
      exact permTo_at h m k (by omega) i (by omega) j hj
theorem permTo_free {π:M} (h:IsPerm π) (m:M):∀ k,k≤8→∀ j:Fin 8,(∀ i:Fin 8,i.val < k→π i≠(j.val:Int))→permTo π m k j=0
  | 0,_,_,_=>rfl
  | k + 1,hk,j,hj=>by
    have hk':k < 8:=by omega
    have r:=h.rng ⟨k,hk'⟩
    have:=hj ⟨k,hk'⟩ (by simp)
    simp only [permTo,dif_pos hk',setF]
    rw [if_neg (by omega)]
    exact permTo_free h m k (by omega) j fun i hi=>hj i (by omega)
theorem permTo_ok {π m:M} (hm:Ok m):∀ k,Ok (permTo π m k)
  | 0=>fun _=>by simp [permTo]
  | k + 1=>fun j=>by
    simp only [permTo]
    split
    · rename_i hk
      simp only [setF]
      split
      · exact hm _
      · exact permTo_ok hm k j
    · exact permTo_ok hm k j
theorem permM_ok {π m:M} (hm:Ok m):Ok (permM π m):=permTo_ok hm 8
theorem permM_at {π:M} (h:IsPerm π) (m:M) (i j:Fin 8) (hj:(j.val:Int) = π i):permM π m j=m i:=permTo_at h m 8 (by omega) i i.isLt j hj
theorem permM_inj {π:M} (h:IsPerm π) {a b:M} (e:permM π a=permM π b):a=b:=by
  funext i
  have r:=h.rng i
  have h1:=permM_at h a i ⟨(π i).toNat,by omega⟩ (by simp; omega)
  have h2:=permM_at h b i ⟨(π i).toNat,by omega⟩ (by simp; omega)
  rw [← h1,← h2,e]
theorem degTo_set (f:M) (x:Int) (q:Nat):∀ k,k≤8→degTo (setF f q x) k=degTo f k + (if h:q < 8 then (if q < k then x - f ⟨q,h⟩ else 0) else 0)
  | 0,_=>by simp [degTo]
  | k + 1,hk=>by
    have hk':k < 8:=by omega
    simp only [degTo,dif_pos hk',degTo_set f x q k (by omega),setF]
    by_cases e:k=q
    · subst e
      simp [hk']
      omega
    · rw [if_neg e]
      by_cases h8:q < 8
      · simp only [dif_pos h8]
        by_cases hq:q < k
        · rw [if_pos hq,if_pos (by omega)]; omega
        · rw [if_neg hq,if_neg (by omega)]; omega
      · simp only [dif_neg h8]; omega
theorem degM_perm {π:M} (h:IsPerm π) (m:M):degM (permM π m) = degM m:=by
  have key:∀ k,k≤8→degM (permTo π m k) = degTo m k:=by
    intro k
    induction k with
    | zero=>intro _; simp [permTo,degM,degTo]
    | succ k ih=>
      intro hk
      have hk':k < 8:=by omega
      have r:=h.rng ⟨k,hk'⟩
      have hq:(π ⟨k,hk'⟩).toNat < 8:=by omega
      simp only [permTo,dif_pos hk',degTo]
      unfold degM at ih ⊢
      rw [degTo_set _ _ _ 8 (by omega),dif_pos hq,if_pos hq,ih (by omega)]
      have:permTo π m k ⟨(π ⟨k,hk'⟩).toNat,hq⟩ = 0:=permTo_free h m k (by omega) _ fun i hi he=>by
        have:π i=π ⟨k,hk'⟩:=by simp at he; omega
        have:=congrArg Fin.val (h.inj _ _ this)
        simp at this; omega
      rw [this]; omega
  exact key 8 (by omega)
theorem perm_loop {π:M} (h:IsPerm π) (x:T_api_Term):(polynomial_Permute_L4 π x (0,fun _=>0)).Ret (permM π x.m):=by
  refine Comp.loop_idx 8 (fun k s=>s=((k:Int),permTo π x.m k)) (fun k s hk hs=>?_) (fun s hs=>?_) rfl
  · subst hs
    have r:=h.rng ⟨k,hk⟩
    show (if (k:Int) < 8 then _ else _:Comp _).wp _
    rw [Comp.wp_ite,if_pos (by omega)]
    refine ⟨by omega,by omega,by rw [getFN hk]; exact r,?_⟩
    show _=_
    rw [wrapN (by omega),getFN hk,getFN hk]
    simp only [permTo,dif_pos hk]
  · subst hs
    show (if ((8:Nat):Int) < 8 then _ else _:Comp _).wp _
    rw [Comp.wp_ite,if_neg (by omega)]
    rfl
theorem perm_loop6 {π:M} (h:IsPerm π) {p:List T_api_Term} {k:Nat} (hk:k < p.length):(R06_Permute_L4 p π (k:Int) (0,fun _=>0)).Ret (permM π p[k].m):=by
  refine Comp.loop_idx 8 (fun j s=>s=((j:Int),permTo π p[k].m j)) (fun j s hj hs=>?_) (fun s hs=>?_) rfl
  · subst hs
    have r:=h.rng ⟨j,hj⟩
    show (if (j:Int) < 8 then _ else _:Comp _).wp _
    rw [Comp.wp_ite,if_pos (by omega)]
    refine ⟨by omega,p[k],idxN hk,by omega,by rw [getFN hj]; exact r,?_⟩
    show _=_
    rw [wrapN (by omega),getFN hj,getFN hj]
    simp only [permTo,dif_pos hj]
  · subst hs
    show (if ((8:Nat):Int) < 8 then _ else _:Comp _).wp _
    rw [Comp.wp_ite,if_neg (by omega)]
    rfl
theorem seen_no {π:M} (h:IsPerm π) {k:Nat} (hk:k < 8) {bx:Fin 8→Bool} (hb:∀ j,bx j=true→∃ i:Fin 8,i.val < k∧(j.val:Int) = π i):¬ getF bx (π ⟨k,hk⟩) = true:=by
  have r:=h.rng ⟨k,hk⟩
  rw [getF_eq bx (show (π ⟨k,hk⟩).toNat < 8 by omega)]
  intro ht
  obtain ⟨i,h1,h2⟩:=hb _ ht
  have:π i=π ⟨k,hk⟩:=by simp at h2; omega
  have:=congrArg Fin.val (h.inj _ _ this)
  simp at this; omega
theorem seen_step {π:M} (h:IsPerm π) {k:Nat} (hk:k < 8) {bx:Fin 8→Bool} (hb:∀ j,bx j=true→∃ i:Fin 8,i.val < k∧(j.val:Int) = π i):∀ j,setF bx (π ⟨k,hk⟩).toNat true j=true→∃ i:Fin 8,i.val < k + 1∧(j.val:Int) = π i:=by
  intro j hj
  have r:=h.rng ⟨k,hk⟩
  simp only [setF] at hj
  split at hj
  · exact ⟨⟨k,hk⟩,by simp,by omega⟩
  · obtain ⟨i,h1,h2⟩:=hb j hj
    exact ⟨i,by omega,h2⟩
theorem IsPermutation_ret {π:M} (h:IsPerm π):(R06_IsPermutation π).Ret true:=by
  show (Comp.next _ _).wp _
  refine Comp.loop_idx 8 (fun k s=>∃ bx:Fin 8→Bool,s=((k:Int),bx)∧∀ j,bx j=true→∃ i:Fin 8,i.val < k∧(j.val:Int) = π i) (fun k s hk hs=>?_) (fun s hs=>?_) ⟨_,rfl,fun j hj=>by cases hj⟩
  · obtain ⟨bx,rfl,hb⟩:=hs
    have r:=h.rng ⟨k,hk⟩
    show (if (k:Int) < 8 then _ else _:Comp _).wp _
    rw [Comp.wp_ite,if_pos (by omega)]
    refine ⟨by omega,?_⟩
    rw [getFN hk,Comp.wp_ite,if_neg (by omega)]
    refine ⟨by omega,?_⟩
    rw [Comp.wp_ite,if_neg (by omega)]
    refine ⟨by omega,r,?_⟩
    rw [Comp.wp_ite,if_neg (seen_no h hk hb)]
    refine ⟨by omega,r,?_⟩
    rw [wrapN (by omega)]
    exact ⟨_,rfl,seen_step h hk hb⟩
  · obtain ⟨bx,rfl,hb⟩:=hs
    show (if ((8:Nat):Int) < 8 then _ else _:Comp _).wp _
    rw [Comp.wp_ite,if_neg (by omega)]
    rfl
end Go.EL

namespace Go.EL
open Go Go.RowKit
def permT (π:M) (t:T_api_Term):T_api_Term:=⟨t.c,permM π t.m⟩
def permAcc (π:M) (l:List T_api_Term):List T_api_Term:=l.foldl (fun acc t=>addT acc (permT π t)) []
def permP (π:M) (p:List T_api_Term):List T_api_Term:=permAcc π p
theorem addT_new {p:List T_api_Term} {t:T_api_Term}:(∀ x ∈ p,x.m≠t.m)→(addT p t).Perm (t::p):=by
  induction p with
  | nil=>intro _; exact List.Perm.refl _
  | cons x xs ih=>
    intro h
    have hx:=h x (by simp)
    simp only [addT]
    split
    · exact ((ih fun y hy=>h y (by simp [hy])).cons x).trans (List.Perm.swap _ _ _)
    · split
      · exact List.Perm.refl _
      · exact absurd (cmpM_zero (by omega)) hx
theorem cmp_pos_trans {a b c:M} (h1:0 < cmpM a b) (h2:0 < cmpM b c):0 < cmpM a c:=by
  have k1:=cmpM_neg a b
  have k2:=cmpM_neg b c
  have k3:=cmpM_neg a c
  have:=cmpM_lt_trans (a:=c) (b:=b) (c:=a) (by omega) (by omega) (.inl (by omega))
  omega
abbrev Desc (p:List T_api_Term):Prop:=p.Pairwise fun x y=>0 < cmpM x.m y.m
theorem addT_desc {p:List T_api_Term} {t:T_api_Term}:Desc p→Desc (addT p t)∧∀ z,(∀ x ∈ p,0 < cmpM z x.m)→0 < cmpM z t.m→∀ y ∈ addT p t,0 < cmpM z y.m:=by
  induction p with
  | nil=>intro _; exact ⟨by simp [addT],fun z _ h y hy=>by simp [addT] at hy; subst hy; exact h⟩
  | cons x xs ih=>
    intro hd
    obtain ⟨h1,h2⟩:=List.pairwise_cons.1 hd
    obtain ⟨i1,i2⟩:=ih h2
    simp only [addT]
    split
    · rename_i hc
      refine ⟨List.pairwise_cons.2 ⟨i2 _ h1 hc,i1⟩,fun z hz hzt y hy=>?_⟩
      rcases List.mem_cons.1 hy with rfl|hy
      · exact hz _ (by simp)
      · exact i2 z (fun w hw=>hz w (by simp [hw])) hzt y hy
    · split
      · rename_i hc
        have hc':0 < cmpM t.m x.m:=by have:=cmpM_neg x.m t.m; omega
        refine ⟨List.pairwise_cons.2 ⟨fun y hy=>?_,hd⟩,fun z hz hzt y hy=>?_⟩
        · rcases List.mem_cons.1 hy with rfl|hy
          · exact hc'
          · exact cmp_pos_trans hc' (h1 y hy)
        · rcases List.mem_cons.1 hy with rfl|hy
          · exact hzt
          · exact hz y hy
      · split
        · exact ⟨h2,fun z hz _ y hy=>hz y (by simp [hy])⟩
        · refine ⟨List.pairwise_cons.2 ⟨h1,h2⟩,fun z hz _ y hy=>?_⟩
          rcases List.mem_cons.1 hy with rfl|hy
          · exact hz x (by simp)
          · exact hz y (by simp [hy])
theorem permAcc_snoc (π:M) (l:List T_api_Term) (t:T_api_Term):permAcc π (l++[t]) = addT (permAcc π l) (permT π t):=by simp [permAcc,List.foldl_append]
theorem desc_nodup {p:List T_api_Term} (h:Desc p):p.Pairwise fun x y=>x.m≠y.m:=h.imp fun hp e=>by rw [e,cmpM_self] at hp; omega
theorem permAcc_ok {π:M} (h:IsPerm π) {p:List T_api_Term} (hd:Desc p):∀ k,k≤p.length→(permAcc π (p.take k)).Perm ((p.take k).map (permT π))∧Desc (permAcc π (p.take k))
  | 0,_=>by simp [permAcc]
  | k + 1,hk=>by
    obtain ⟨h1,h2⟩:=permAcc_ok h hd k (by omega)
    have hk':k < p.length:=by omega
    rw [← List.take_append_getElem hk',permAcc_snoc]
    refine ⟨?_,(addT_desc h2).1⟩
    have hnew:∀ x ∈ permAcc π (p.take k),x.m≠(permT π p[k]).m:=by
      intro x hx e
      obtain ⟨y,hy,rfl⟩:=List.mem_map.1 (h1.mem_iff.1 hx)
      have hm:=permM_inj h e
      obtain ⟨i,hi,rfl⟩:=List.mem_iff_getElem.1 hy
      simp only [List.length_take] at hi
      rw [List.getElem_take] at hm
      exact List.pairwise_iff_getElem.1 (desc_nodup hd) i k (by omega) hk' (by omega) hm
    refine (addT_new hnew).trans ?_
    rw [List.map_append]
    exact (h1.cons _).trans (List.perm_append_comm (l₁:=[permT π p[k]]))
theorem permP_perm {π:M} (h:IsPerm π) {p:List T_api_Term} (hd:Desc p):(permP π p).Perm (p.map (permT π))∧Desc (permP π p):=by
  have:=permAcc_ok h hd p.length (by omega)
  rwa [List.take_length] at this
theorem permP_ok {π:M} (h:IsPerm π) {p:List T_api_Term} (hp:PolOk p):PolOk (permP π p):=by
  obtain ⟨h1,h2⟩:=permP_perm h hp.ord
  refine ⟨h2,fun t ht=>?_,by rw [h1.length_eq,List.length_map]; exact hp.len⟩
  obtain ⟨y,hy,rfl⟩:=List.mem_map.1 (h1.mem_iff.1 ht)
  exact ⟨(hp.trm y hy).c,permM_ok (hp.trm y hy).m⟩
theorem R06_Permute_ret {π:M} (h:IsPerm π) {p:List T_api_Term} (hp:PolOk p):(R06_Permute p π).Ret (permP π p,0):=by
  have hl:=hp.len
  refine ⟨true,IsPermutation_ret h,?_⟩
  show (Comp.next _ _).wp _
  refine Comp.loop_idx p.length (fun k s=>s=(permAcc π (p.take k),(k:Int))) (fun k s hk hs=>?_) (fun s hs=>?_) (by simp [permAcc])
  · subst hs
    obtain ⟨h1,h2⟩:=permAcc_ok h hp.ord k (by omega)
    show (if (k:Int) < (p.length:Int) then _ else _:Comp _).wp _
    rw [Comp.wp_ite,if_pos (by omega)]
    refine (perm_loop6 h hk).then ?_
    refine ⟨p[k],idxN hk,_,R06_Add_one (by rw [h1.length_eq,List.length_map,List.length_take]; omega) (fun x hx e=>?_),?_⟩
    · obtain ⟨y,hy,rfl⟩:=List.mem_map.1 (h1.mem_iff.1 hx)
      have hm:=permM_inj h e
      obtain ⟨i,hi,rfl⟩:=List.mem_iff_getElem.1 hy
      simp only [List.length_take] at hi
      rw [List.getElem_take] at hm
      exact absurd hm (List.pairwise_iff_getElem.1 (desc_nodup hp.ord) i k (by omega) hk (by omega))
    · show _=_
      rw [wrapN (by omega),← List.take_append_getElem hk,permAcc_snoc]
      rfl
  · subst hs
    show (if ((p.length:Nat):Int) < (p.length:Int) then _ else _:Comp _).wp _
    rw [Comp.wp_ite,if_neg (by omega)]
    show _=_
    rw [List.take_length]; rfl
end Go.EL

namespace Go.EL
open Go Go.RowKit
theorem len_all:(between 0 100 fun n=>match (math_bits_Len (IntKind.u64.wrap n)).ev 30 with|some v=>decide (0≤v∧v < 1000000)|none=>false) = true:=by decide +kernel
theorem len_ret {n:Nat} (h:n≤100):∃ v,(math_bits_Len (IntKind.u64.wrap (n:Int))).Ret v∧0≤v∧v < 1000000:=by
  have:=between_of len_all (x:=(n:Int)) (by omega) (by omega)
  split at this
  · rename_i v hv
    have:=of_decide_eq_true this
    exact ⟨v,Comp.Ret.of_ev 30 hv,this.1,this.2⟩
  · cases this
theorem desc_eq {p:List T_api_Term} (h:Desc p) {x y:T_api_Term} (hx:x ∈ p) (hy:y ∈ p) (e:x.m=y.m):x=y:=by
  obtain ⟨i,hi,rfl⟩:=List.mem_iff_getElem.1 hx
  obtain ⟨j,hj,rfl⟩:=List.mem_iff_getElem.1 hy
  have key:=List.pairwise_iff_getElem.1 (desc_nodup h)
  rcases Nat.lt_trichotomy i j with hij|hij|hij
  · exact absurd e (key i j hi hj hij)
  · subst hij; rfl
  · exact absurd e.symm (key j i hj hi hij)
theorem desc_weak {p:List T_api_Term} (h:Desc p):p.Pairwise fun x y=>¬ cmpM x.m y.m < 0:=h.imp fun hp=>by omega
theorem sorted_one {p ys:List T_api_Term} (hd:Desc p) (hp:ys.Perm p) (hs:ys.Pairwise fun x y=>¬ cmpM x.m y.m < 0):ys=p:=
  List.Perm.eq_of_pairwise (le:=fun x y:T_api_Term=>¬ cmpM x.m y.m < 0) (fun a b ha hb h1 h2=>by
    have:=cmpM_neg a.m b.m
    exact desc_eq hd (hp.mem_iff.1 ha) hb (cmpM_zero (by omega))) hs (desc_weak hd) hp
theorem SortFunc_ret {p l:List T_api_Term} (hd:Desc p) (hl:p.length≤100) (hp:l.Perm p):(slices_SortFunc_api_Poly_api_Term_polynomial_sorted_c1 l).Ret p:=by
  have e:=hp.length_eq
  obtain ⟨v,h1,h2,h3⟩:=len_ret (n:=l.length) (by omega)
  refine ⟨v,h1,p,?_,rfl⟩
  refine ⟨⟨rfl,rfl,⟨h2,h3⟩,by omega⟩,fun ys ⟨k1,k2⟩=>?_⟩
  exact sorted_one hd (k1.trans hp) k2
def termOf (q:M×T_api_Rat):T_api_Term:=⟨q.2,q.1⟩
theorem sorted_ret {p:List T_api_Term} (hp:PolOk p) {D:List (M×T_api_Rat)} (hD:(D.map termOf).Perm p):(polynomial_sorted D).Ret p:=by
  have hl:=hp.len
  have e:=hD.length_eq
  rw [List.length_map] at e
  refine ⟨⟨by omega,by omega⟩,?_⟩
  show (Comp.next _ _).wp _
  refine Comp.loop_inv (fun s=>(s.1++s.2.map termOf).Perm p) (fun s=>s.2.length) (fun s hs=>?_) _ (by simpa using hD)
  obtain ⟨rv,R⟩:=s
  simp only at hs
  have hlen:=hs.length_eq
  simp only [List.length_append,List.length_map] at hlen
  refine ⟨fun hR=>?_,fun R1 q R2 hR=>?_⟩
  · subst hR
    rw [List.map_nil,List.append_nil] at hs
    exact ⟨_,SortFunc_ret hp.ord hl hs,rfl⟩
  · subst hR
    have hmem:termOf q ∈ p:=hs.mem_iff.1 (by simp)
    obtain ⟨s,h1,h2⟩:=(hp.trm _ hmem).ps
    refine ⟨s,h1,?_⟩
    rw [Comp.wp_ite,if_pos h2]
    simp only [List.length_append,List.length_cons] at hlen
    refine ⟨by simp [small]; omega,?_,?_⟩
    · refine List.Perm.trans ?_ hs
      simp only [List.map_append,List.map_cons,List.append_assoc,List.singleton_append]
      refine List.Perm.append_left rv ?_
      exact (List.perm_middle (a:=termOf q) (l₁:=R1.map termOf) (l₂:=R2.map termOf)).symm
    · show (R1++R2).length < (R1++q::R2).length
      simp
theorem wf_ok {m:M} (h:Ok m):∀ i,(Lit.int IntKind.i64 (m i)).wf=true:=fun i=>by
  have:=h i
  simp only [Lit.wf,Bool.and_eq_true,decide_eq_true_eq]
  exact ⟨Int.le_trans (by decide) this.1,Int.le_trans this.2 (by decide)⟩
def pairT (π:M) (t:T_api_Term):M×T_api_Rat:=(permM π t.m,t.c)
theorem Permute_ret {π:M} (h:IsPerm π) {p:List T_api_Term} (hp:PolOk p):(polynomial_Permute p π).Ret (permP π p,0):=by
  have hl:=hp.len
  show (Comp.next _ _).wp _
  refine Comp.loop_idx 8 (fun k s=>∃ bx:Fin 8→Bool,s=((k:Int),bx)∧∀ j,bx j=true→∃ i:Fin 8,i.val < k∧(j.val:Int) = π i) (fun k s hk hs=>?_) (fun s hs=>?_) ⟨_,rfl,fun j hj=>by cases hj⟩
  · obtain ⟨bx,rfl,hb⟩:=hs
    have r:=h.rng ⟨k,hk⟩
    show (if (k:Int) < 8 then _ else _:Comp _).wp _
    rw [Comp.wp_ite,if_pos (by omega)]
    refine ⟨by omega,?_⟩
    rw [getFN hk,Comp.wp_ite,if_neg (by omega),Comp.wp_ite,if_neg (by omega)]
    refine ⟨r,?_⟩
    rw [Comp.wp_ite,if_neg (seen_no h hk hb)]
    refine ⟨r,?_⟩
    rw [wrapN (by omega)]
    exact ⟨_,rfl,seen_step h hk hb⟩
  · obtain ⟨bx,rfl,hb⟩:=hs
    show (if ((8:Nat):Int) < 8 then _ else _:Comp _).wp _
    rw [Comp.wp_ite,if_neg (by omega)]
    show (polynomial_Permute_k5 p π).wp _
    show (Comp.next _ _).wp _
    refine Comp.loop_idx p.length (fun k s=>s=((k:Int),(p.take k).map (pairT π))) (fun k s hk hs=>?_) (fun s hs=>?_) (by simp)
    · subst hs
      show (if (k:Int) < (p.length:Int) then _ else _:Comp _).wp _
      rw [Comp.wp_ite,if_pos (by omega)]
      refine ⟨p[k],idxN hk,?_⟩
      refine (perm_loop h p[k]).then ?_
      have hput:mput ((p.take k).map (pairT π)) (permM π p[k].m) p[k].c=(p.take (k + 1)).map (pairT π):=by
        rw [mput_new,← List.take_append_getElem hk,List.map_append]
        · rfl
        · intro q hq e
          obtain ⟨y,hy,rfl⟩:=List.mem_map.1 hq
          have hm:=permM_inj h e
          obtain ⟨i,hi,rfl⟩:=List.mem_iff_getElem.1 hy
          simp only [List.length_take] at hi
          rw [List.getElem_take] at hm
          exact List.pairwise_iff_getElem.1 (desc_nodup hp.ord) i k (by omega) hk (by omega) hm
      refine ⟨⟨wf_ok (permM_ok (hp.at hk).m),?_⟩,?_⟩
      · rw [hput,List.length_map,List.length_take]; simp only [small]; omega
      · show _=_
        rw [hput,wrapN (by omega)]
    · subst hs
      show (if ((p.length:Nat):Int) < (p.length:Int) then _ else _:Comp _).wp _
      rw [Comp.wp_ite,if_neg (by omega)]
      refine ⟨permP π p,sorted_ret (permP_ok h hp) ?_,rfl⟩
      rw [List.take_length,List.map_map]
      exact (permP_perm h hp.ord).1.symm
end Go.EL

namespace Go.EL
open Go Go.RowKit
theorem whole_ret {n:Int} (h1:-8≤n) (h2:n≤8):(R02_Whole n).Ret (ratI n):=runs_ret (between_of whole_all h1 h2)
theorem mul_zero (m:M):mulM (fun _=>0) m=m:=by funext i; simp [mulM]
theorem Scale_ret {c:Int} (h1:-3≤c) (h2:c≤3) {m:M} (hm:Ok m):(R06_Scale (ratI c) [⟨ratI 1,m⟩]).Ret (if c=0 then [] else [⟨ratI c,m⟩]):=by
  have hs:=runs_ret (between_of sign_all (x:=c) (by omega) (by omega))
  by_cases h0:c=0
  · subst h0
    rw [if_pos rfl]
    refine ⟨([],0),⟨_,hs,?_⟩,rfl⟩
    rw [Comp.wp_ite,if_pos (by decide)]
    rfl
  · rw [if_neg h0]
    refine ⟨([⟨ratI c,m⟩],0),⟨_,hs,?_⟩,rfl⟩
    rw [Comp.wp_ite,if_neg (by split <;> first|omega|(split <;> omega))]
    show (Comp.next _ _).wp _
    refine Comp.loop_idx 1 (fun k s=>s=((if k=0 then [] else [⟨ratI c,m⟩]),(k:Int))) (fun k s hk hs=>?_) (fun s hs=>?_) rfl
    · obtain rfl:k=0:=by omega
      subst hs
      refine ⟨⟨ratI 1,m⟩,⟨by omega,rfl⟩,(m,0),?_,?_⟩
      · have:=R04_Mul_ret (a:=fun _=>0) (b:=m) (fun _=>⟨Int.le_refl 0,show (0:Int)≤65535 by decide⟩) hm (by rw [mul_zero]; exact hm)
        rwa [mul_zero] at this
      · rw [Comp.wp_ite,if_neg (fun h=>h rfl)]
        exact ⟨⟨ratI 1,m⟩,⟨by omega,rfl⟩,_,runs_ret (between_of mul_all h1 h2),by simp [small],rfl⟩
    · subst hs
      rfl
def RawOk (x:T_ref06_Raw):Prop:=∀ v ∈ x.t,∀ j:Fin 5,-128≤v j∧v j≤127
structure MadeOk (K:Int) (n:Nat) (d:Int) (k:Nat) (p:List T_api_Term):Prop where
  ord:Desc p
  cof:∀ t ∈ p,∃ c:Int,t.c=ratI c∧c≠0∧-K≤c∧c≤K
  mon:∀ t ∈ p,(∀ i,0≤t.m i)∧(∀ i:Fin 8,n≤i.val→t.m i=0)∧degM t.m≤d
  len:p.length≤k
theorem degTo_ge {m:M} (h:∀ i,0≤m i):∀ k,k≤8→0≤degTo m k∧∀ i:Fin 8,i.val < k→m i≤degTo m k
  | 0,_=>by simp [degTo]
  | k + 1,hk=>by
    obtain ⟨h1,h2⟩:=degTo_ge h k (by omega)
    have hk':k < 8:=by omega
    have:=h ⟨k,hk'⟩
    simp only [degTo,dif_pos hk']
    refine ⟨by omega,fun i hi=>?_⟩
    by_cases e:i.val=k
    · have:i = ⟨k,hk'⟩:=Fin.ext e
      subst this; omega
    · have:=h2 i (by omega); omega
theorem ok_of_deg {m:M} (h:∀ i,0≤m i) {d:Int} (hd:degM m≤d) (h2:d≤65535):Ok m:=fun i=>by
  have:=(degTo_ge h 8 (by omega)).2 i i.isLt
  unfold degM at hd
  exact ⟨h i,by omega⟩
theorem MadeOk.pol {K:Int} {n:Nat} {d:Int} {k:Nat} {p:List T_api_Term} (h:MadeOk K n d k p) (hK:K≤12) (hd:d≤100) (hk:k≤100):PolOk p:=
  ⟨h.ord,fun t ht=>⟨by obtain ⟨c,e,h0,h1,h2⟩:=h.cof t ht; exact ⟨c,e,h0,by omega,by omega⟩,ok_of_deg (h.mon t ht).1 (h.mon t ht).2.2 (by omega)⟩,by have:=h.len; omega⟩
theorem addT_mem {p:List T_api_Term} {t y:T_api_Term}:y ∈ addT p t→y ∈ p∨y=t∨∃ x ∈ p,x.m=t.m∧valR x.c + valR t.c≠0∧y = ⟨ratI (valR x.c + valR t.c),x.m⟩:=by
  induction p with
  | nil=>intro h; simp [addT] at h; exact .inr (.inl h)
  | cons x xs ih=>
    intro h
    simp only [addT] at h
    split at h
    · rcases List.mem_cons.1 h with rfl|h
      · exact .inl (by simp)
      · rcases ih h with h|h|⟨z,h1,h2⟩
        · exact .inl (by simp [h])
        · exact .inr (.inl h)
        · exact .inr (.inr ⟨z,by simp [h1],h2⟩)
    · split at h
      · rcases List.mem_cons.1 h with rfl|h
        · exact .inr (.inl rfl)
        · exact .inl h
      · have hm:x.m=t.m:=cmpM_zero (by omega)
        split at h
        · exact .inl (by simp [h])
        · rename_i hne
          rcases List.mem_cons.1 h with rfl|h
          · exact .inr (.inr ⟨x,by simp,hm,hne,rfl⟩)
          · exact .inl (by simp [h])
theorem MadeOk.add {K:Int} {n:Nat} {d:Int} {k:Nat} {p:List T_api_Term} (h:MadeOk K n d k p) {c:Int} {m:M} (hK:0≤K) (h0:c≠0) (h1:-3≤c) (h2:c≤3) (hm:(∀ i,0≤m i)∧(∀ i:Fin 8,n≤i.val→m i=0)∧degM m≤d) :
    MadeOk (K + 3) n d (k + 1) (addT p ⟨ratI c,m⟩):=by
  refine ⟨(addT_desc h.ord).1,fun t ht=>?_,fun t ht=>?_,by have:=addT_length p ⟨ratI c,m⟩; have:=h.len; omega⟩
  · rcases addT_mem ht with ht|rfl|⟨x,hx,hxm,hne,rfl⟩
    · obtain ⟨a,e,k0,k1,k2⟩:=h.cof t ht
      exact ⟨a,e,k0,by omega,by omega⟩
    · exact ⟨c,rfl,h0,by omega,by omega⟩
    · obtain ⟨a,e,k0,k1,k2⟩:=h.cof x hx
      simp only [valR_ratI,e] at hne ⊢
      exact ⟨a + c,rfl,hne,by omega,by omega⟩
  · rcases addT_mem ht with ht|rfl|⟨x,hx,hxm,hne,rfl⟩
    · exact h.mon t ht
    · exact hm
    · exact h.mon x hx
theorem MadeOk.grow {K K':Int} {n:Nat} {d:Int} {k k':Nat} {p:List T_api_Term} (h:MadeOk K n d k p) (h1:K≤K') (h2:k≤k'):MadeOk K' n d k' p:=
  ⟨h.ord,fun t ht=>by obtain ⟨a,e,k0,k1,k2⟩:=h.cof t ht; exact ⟨a,e,k0,by omega,by omega⟩,h.mon,by have:=h.len; omega⟩
theorem MadeOk.near {K:Int} {n:Nat} {d:Int} {k:Nat} {p:List T_api_Term} (h:MadeOk K n d k p) (hK:K≤12) {c:Int} {m:M} (h1:-3≤c) (h2:c≤3):Near p ⟨ratI c,m⟩:=fun x hx _=>by
  obtain ⟨a,e,k0,k1,k2⟩:=h.cof x hx
  exact ⟨a,c,e,rfl,by omega,by omega,h1,h2⟩
def absI (n:Int):Int:=if n < 0 then -n else n
theorem abs_ret {n:Int} (h1:-128≤n) (h2:n≤127):(R06_abs n).Ret (absI n):=by
  unfold R06_abs absI
  by_cases h:n < 0
  · rw [if_pos h,if_pos h]
    show _=_
    simp (disch:=omega) only [wrap64]
    omega
  · rw [if_neg h,if_neg h]
    exact wrap64 (by omega)
theorem tmod_bd {a b:Int} (ha:0≤a) (hb:0 < b):0≤Int.tmod a b∧Int.tmod a b < b:=by
  rw [Int.tmod_eq_emod_of_nonneg ha]
  exact ⟨Int.emod_nonneg _ (by omega),Int.emod_lt_of_pos _ hb⟩
theorem tmod4 {a:Int} (h1:-128≤a) (h2:a≤127):-3≤Int.tmod a 4∧Int.tmod a 4≤3:=by
  by_cases h:0≤a
  · have:=tmod_bd (b:=4) h (by omega); omega
  · have:=tmod_bd (a:=-a) (b:=4) (by omega) (by omega)
    rw [Int.neg_tmod] at this
    omega
def rawTo (v:Fin 5→Int) (d:Int):Nat→Int×M
  | 0=>(d,fun _=>0)
  | j + 1=>((rawTo v d j).1 - Int.tmod (absI (getF v ((j + 1:Nat):Int))) ((rawTo v d j).1 + 1),setF (rawTo v d j).2 j (Int.tmod (absI (getF v ((j + 1:Nat):Int))) ((rawTo v d j).1 + 1)))
theorem rawTo_ok {v:Fin 5→Int} {d:Int} (hd:0≤d):∀ j,j≤4→0≤(rawTo v d j).1∧(∀ i,0≤(rawTo v d j).2 i)∧(∀ i:Fin 8,j≤i.val→(rawTo v d j).2 i=0)∧degM (rawTo v d j).2 + (rawTo v d j).1=d
  | 0,_=>⟨hd,fun _=>Int.le_refl 0,fun _ _=>rfl,by simp [rawTo,degM,degTo]⟩
  | j + 1,hj=>by
    obtain ⟨h0,h1,h2,h3⟩:=rawTo_ok (v:=v) hd j (by omega)
    have ha:0≤absI (getF v ((j + 1:Nat):Int)):=by unfold absI; split <;> omega
    have hm:=tmod_bd ha (show 0 < (rawTo v d j).1 + 1 by omega)
    simp only [rawTo]
    refine ⟨by omega,fun i=>?_,fun i hi=>?_,?_⟩
    · simp only [setF]; split
      · exact hm.1
      · exact h1 i
    · simp only [setF]; rw [if_neg (by omega)]; exact h2 i (by omega)
    · unfold degM at h3 ⊢
      rw [degTo_set _ _ _ 8 (by omega),dif_pos (by omega),if_pos (by omega),h2 _ (by simp)]
      omega
def rawM (v:Fin 5→Int) (d:Int) (n:Nat):M:=(rawTo v d n).2
theorem rawM_ok {v:Fin 5→Int} {d:Int} (hd:0≤d) {n:Nat} (hn:n≤4):(∀ i,0≤rawM v d n i)∧(∀ i:Fin 8,n≤i.val→rawM v d n i=0)∧degM (rawM v d n)≤d:=by
  obtain ⟨h0,h1,h2,h3⟩:=rawTo_ok (v:=v) hd n hn
  exact ⟨h1,h2,by unfold rawM; omega⟩
theorem Made_mono {x:T_ref06_Raw} (hx:RawOk x) {n:Nat} (hn:n≤4) {d:Int} (hd0:0≤d) (hd:d≤100) {k:Nat} (hk:k < x.t.length) :
    (R06_Made_L4 x (n:Int) (k:Int) (d,0,fun _=>0)).Ret (rawM x.t[k] d n):=by
  refine Comp.loop_idx n (fun j s=>s=((rawTo x.t[k] d j).1,(j:Int),(rawTo x.t[k] d j).2)) (fun j s hj hs=>?_) (fun s hs=>?_) rfl
  · subst hs
    obtain ⟨h0,h1,h2,h3⟩:=rawTo_ok (v:=x.t[k]) hd0 j (by omega)
    have hb:=(degTo_ge h1 8 (by omega)).1
    have hj8:j < 8:=by omega
    have hr:=hx _ (List.getElem_mem hk)
    show (if (j:Int) < (n:Int) then _ else _:Comp _).wp _
    rw [Comp.wp_ite,if_pos (by omega),Comp.wp_ite,if_pos (by omega)]
    have hw:IntKind.i64.wrap (1 + (j:Int)) = ((j + 1:Nat):Int):=by rw [wrap64 (by omega)]; omega
    have hw2:IntKind.i64.wrap ((rawTo x.t[k] d j).1 + 1) = (rawTo x.t[k] d j).1 + 1:=wrap64 (by unfold degM at h3; omega)
    rw [hw,hw2]
    have hg:getF x.t[k] ((j + 1:Nat):Int) = x.t[k] ⟨j + 1,by omega⟩:=getF_eq _ (by simp; omega)
    have hm:=tmod_bd (a:=absI (getF x.t[k] ((j + 1:Nat):Int))) (b:=(rawTo x.t[k] d j).1 + 1) (by unfold absI; split <;> omega) (by omega)
    refine ⟨x.t[k],idxN hk,by omega,_,abs_ret (by rw [hg]; exact (hr _).1) (by rw [hg]; exact (hr _).2),by omega,by omega,by omega,?_⟩
    show _=_
    have hs8:∀ e:Int,getF (setF (rawTo x.t[k] d j).2 (j:Int).toNat e) (j:Int) = e:=fun e=>by rw [getFN hj8]; simp [setF]
    rw [hs8,wrapN (by omega),wrap64 (by unfold degM at h3; omega)]
    rfl
  · subst hs
    show (if (n:Int) < (n:Int) then _ else _:Comp _).wp _
    rw [Comp.wp_ite,if_neg (by omega)]
    rfl
def madeTo (x:T_ref06_Raw) (n:Nat) (d:Int):Nat→List T_api_Term
  | 0=>[]
  | k + 1=>match x.t[k]? with
    | some v=>if Int.tmod (getF v 0) 4=0 then madeTo x n d k else addT (madeTo x n d k) ⟨ratI (Int.tmod (getF v 0) 4),rawM v d n⟩
    | none=>madeTo x n d k
theorem raw0 {x:T_ref06_Raw} (hx:RawOk x) {v:Fin 5→Int} (hv:v ∈ x.t):-3≤Int.tmod (getF v 0) 4∧Int.tmod (getF v 0) 4≤3:=by
  have:=hx v hv 0
  rw [getF_eq v (by decide)]
  exact tmod4 this.1 this.2
theorem madeTo_ok {x:T_ref06_Raw} (hx:RawOk x) {n:Nat} (hn:n≤4) {d:Int} (hd:0≤d):∀ k:Nat,MadeOk (3 * k) n d k (madeTo x n d k)
  | 0=>⟨List.Pairwise.nil,fun t ht=>by simp [madeTo] at ht,fun t ht=>by simp [madeTo] at ht,by simp [madeTo]⟩
  | k + 1=>by
    have ih:=madeTo_ok hx hn hd k
    simp only [madeTo]
    split
    · rename_i v hv
      have hr:=raw0 hx (List.mem_of_getElem? hv)
      split
      · exact ih.grow (by omega) (by omega)
      · rename_i h0
        exact (ih.add (by omega) h0 hr.1 hr.2 (rawM_ok hd hn)).grow (by omega) (by omega)
    · exact ih.grow (by omega) (by omega)
def madeP (x:T_ref06_Raw) (n:Nat) (d:Int) (k:Nat):List T_api_Term:=madeTo x n d (min k x.t.length)
theorem madeP_ok {x:T_ref06_Raw} (hx:RawOk x) {n:Nat} (hn:n≤4) {d:Int} (hd:0≤d) (k:Nat):MadeOk (3 * k) n d k (madeP x n d k):=(madeTo_ok hx hn hd _).grow (by omega) (by omega)
theorem Made_ret {x:T_ref06_Raw} (hx:RawOk x) {n:Nat} (hn:n≤4) {d:Int} (hd0:0≤d) (hd:d≤100) {k:Nat} (hk:k≤4):(R06_Made x (n:Int) d (k:Int)).Ret (madeP x n d k):=by
  refine Comp.loop_idx (min k x.t.length) (fun j s=>s=(madeTo x n d j,(j:Int))) (fun j s hj hs=>?_) (fun s hs=>?_) rfl
  · subst hs
    have hj':j < x.t.length:=by omega
    have ih:=madeTo_ok hx hn hd0 j
    have hr:=raw0 hx (List.getElem_mem hj')
    show (if (j:Int) < (x.t.length:Int) then _ else _:Comp _).wp _
    rw [Comp.wp_ite,if_pos (by omega),Comp.wp_ite,if_pos (by omega)]
    show (Comp.next _ _).wp _
    refine (Made_mono hx hn hd0 hd hj').then ?_
    have hw:IntKind.i64.wrap (Int.tmod (getF x.t[j] 0) 4) = Int.tmod (getF x.t[j] 0) 4:=wrap64 (by omega)
    have hm:=rawM_ok (v:=x.t[j]) hd0 hn
    refine ⟨x.t[j],idxN hj',_,(by rw [hw]; exact whole_ret (by omega) (by omega)),_,whole_ret (by omega) (by omega),_,Scale_ret hr.1 hr.2 (ok_of_deg hm.1 hm.2.2 (by omega)),?_⟩
    have hlen:=ih.len
    by_cases h0:Int.tmod (getF x.t[j] 0) 4=0
    · rw [if_pos h0]
      refine ⟨_,R06_Add_nil (by omega),?_⟩
      show _=_
      rw [wrapN (by omega)]
      simp only [madeTo,List.getElem?_eq_getElem hj',if_pos h0]
    · rw [if_neg h0]
      refine ⟨_,R06_Add_one (by omega) (ih.near (by omega) hr.1 hr.2),?_⟩
      show _=_
      rw [wrapN (by omega)]
      simp only [madeTo,List.getElem?_eq_getElem hj',if_neg h0]
  · subst hs
    show (if ((min k x.t.length:Nat):Int) < (x.t.length:Int) then _ else _:Comp _).wp _
    by_cases h:min k x.t.length < x.t.length
    · rw [Comp.wp_ite,if_pos (by omega),Comp.wp_ite,if_neg (by omega)]
      rfl
    · rw [Comp.wp_ite,if_neg (by omega)]
      rfl
end Go.EL

namespace Go.EL
open Go Go.RowKit
def letterB (b:Int):Bool:=decide (65≤b∧b≤90) || decide (97≤b∧b≤122)
def restB (b:Int):Bool:=decide (48≤b∧b≤57) || decide (b=95)
def charB (i:Nat) (b:Int):Bool:=letterB b || (decide (0 < i) && restB b)
def nameB (s:ByteArray):Bool:=decide (1≤s.size∧s.size≤12) && (List.range s.size).all fun i=>charB i (byteAt s (i:Int))
theorem name_no {s:ByteArray} {i:Nat} (hi:i < s.size) (h:charB i (byteAt s (i:Int)) = false):nameB s=false:=by
  unfold nameB
  rw [Bool.and_eq_false_iff]
  right
  rw [List.all_eq_false]
  exact ⟨i,List.mem_range.2 hi,by rw [h]; decide⟩
theorem name_yes {s:ByteArray} (h1:1≤s.size∧s.size≤12) (h:∀ i,i < s.size→charB i (byteAt s (i:Int)) = true):nameB s=true:=by
  unfold nameB
  rw [decide_eq_true h1,Bool.true_and,List.all_eq_true]
  exact fun i hi=>h i (List.mem_range.1 hi)
theorem letter_ret (b:Int):(R32_letter b).Ret (letterB b):=by
  unfold R32_letter letterB
  by_cases h1:65≤b <;> by_cases h2:b≤90 <;> by_cases h3:97≤b <;> simp [h1,h2,h3] <;> first|rfl|omega
theorem isRest_ret (b:Int):(system_isRest b).Ret (restB b):=by
  unfold system_isRest restB
  by_cases h1:48≤b <;> by_cases h2:b≤57 <;> simp [h1,h2] <;> first|rfl|omega
theorem Name_ret (s:ByteArray):(R32_Name s).Ret (nameB s):=by
  unfold R32_Name
  by_cases h1:(s.size:Int) < 1
  · rw [if_pos h1]
    show false=nameB s
    unfold nameB
    rw [decide_eq_false (by omega),Bool.false_and]
  rw [if_neg h1]
  by_cases h2:12 < (s.size:Int)
  · rw [if_pos h2]
    show false=nameB s
    unfold nameB
    rw [decide_eq_false (by omega),Bool.false_and]
  rw [if_neg h2]
  refine ⟨by omega,_,letter_ret _,?_⟩
  rw [Comp.wp_ite]
  cases h3:letterB (byteAt s 0) with
  | false=>
    rw [if_pos (by decide)]
    exact (name_no (i:=0) (by omega) (by unfold charB; rw [show ((0:Nat):Int) = 0 from rfl,h3]; simp)).symm
  | true=>
    rw [if_neg (by decide)]
    show (Comp.next _ _).wp _
    refine Comp.loop_idx (s.size - 1) (fun k st=>st=((k + 1:Nat):Int)∧∀ i,i < k + 1→charB i (byteAt s (i:Int)) = true) (fun k st hk hs=>?_) (fun st hs=>?_) ⟨rfl,fun i hi=>?_⟩
    · obtain ⟨rfl,hi⟩:=hs
      have hstep:∀ {b:Int},b=byteAt s ((k + 1:Nat):Int)→charB (k + 1) b=true→∀ i,i < k + 1 + 1→charB i (byteAt s (i:Int)) = true:=by
        intro b hb hc i hik
        by_cases e:i=k + 1
        · subst e; rw [← hb]; exact hc
        · exact hi i (by omega)
      rw [Comp.wp_ite,if_pos (by omega)]
      refine ⟨by omega,_,letter_ret _,?_⟩
      cases h4:letterB (byteAt s ((k + 1:Nat):Int)) with
      | true=>exact ⟨wrapN (by omega),hstep rfl (by unfold charB; rw [h4]; rfl)⟩
      | false=>
        have hno:restB (byteAt s ((k + 1:Nat):Int)) = false→false=nameB s:=fun h=>(name_no (i:=k + 1) (by omega) (by unfold charB; rw [h4,h]; simp)).symm
        have hyes:restB (byteAt s ((k + 1:Nat):Int)) = true→∀ i,i < k + 1 + 1→charB i (byteAt s (i:Int)) = true:=fun h=>hstep rfl (by unfold charB; rw [h4,h]; simp)
        refine ⟨by omega,?_⟩
        rw [Comp.wp_ite]
        unfold restB at hno hyes
        split
        · refine ⟨by omega,?_⟩
          rw [Comp.wp_ite]
          split
          · rename_i a b
            exact ⟨wrapN (by omega),hyes (by rw [decide_eq_true ⟨a,b⟩]; rfl)⟩
          · rename_i a b
            refine ⟨by omega,?_⟩
            rw [Comp.wp_ite]
            split
            · rename_i c
              exact hno (by rw [decide_eq_false (fun h=>b h.2),decide_eq_false c]; rfl)
            · rename_i c
              exact ⟨wrapN (by omega),hyes (by rw [decide_eq_true (Classical.not_not.1 c)]; simp)⟩
        · rename_i a
          refine ⟨by omega,?_⟩
          rw [Comp.wp_ite]
          split
          · rename_i c
            exact hno (by rw [decide_eq_false (fun h=>a h.1),decide_eq_false c]; rfl)
          · rename_i c
            exact ⟨wrapN (by omega),hyes (by rw [decide_eq_true (Classical.not_not.1 c)]; simp)⟩
    · obtain ⟨rfl,hi⟩:=hs
      rw [Comp.wp_ite,if_neg (by omega)]
      exact (name_yes (by omega) fun i hik=>hi i (by omega)).symm
    · obtain rfl:i=0:=by omega
      unfold charB
      rw [show ((0:Nat):Int) = 0 from rfl,h3]; rfl
theorem get_byte (s:ByteArray) (i:Nat):((s.get! i).toNat:Int) = byteAt s (i:Int):=by
  unfold byteAt
  simp only [Int.toNat_natCast]
  congr 2
theorem decode_low {s:ByteArray} {p:Nat} (h:byteAt s (p:Int) < 128):((Utf8.decode s p).1:Int) = byteAt s (p:Int)∧(Utf8.decode s p).2=1:=by
  have hb:=get_byte s p
  unfold Utf8.decode
  simp only [Nat.add_zero]
  rw [if_pos (by omega)]
  exact ⟨hb,rfl⟩
theorem decode_high {s:ByteArray} {p:Nat} (h:128≤byteAt s (p:Int)):128≤((Utf8.decode s p).1:Int):=by
  have hb:=get_byte s p
  unfold Utf8.decode
  simp only [Nat.add_zero,Utf8.runeError]
  rw [if_neg (by omega)]
  split
  · split
    · rename_i h; omega
    · omega
  · split
    · split
      · rename_i h; simp at h; omega
      · omega
    · split
      · split
        · rename_i h; simp at h; omega
        · omega
      · omega
theorem letter_high {b:Int} (h:128≤b):letterB b=false:=by unfold letterB; rw [decide_eq_false (by omega),decide_eq_false (by omega)]; rfl
theorem rest_high {b:Int} (h:128≤b):restB b=false:=by unfold restB; rw [decide_eq_false (by omega),decide_eq_false (by omega)]; rfl
theorem isName_ret (s:ByteArray):(system_isName s).Ret (nameB s):=by
  unfold system_isName
  by_cases h1:(s.size:Int) < 1
  · rw [if_pos h1]
    show false=nameB s
    unfold nameB
    rw [decide_eq_false (by omega),Bool.false_and]
  rw [if_neg h1]
  by_cases h2:12 < (s.size:Int)
  · rw [if_pos h2]
    show false=nameB s
    unfold nameB
    rw [decide_eq_false (by omega),Bool.false_and]
  rw [if_neg h2]
  show (Comp.next _ _).wp _
  refine Comp.loop_idx s.size (fun k st=>st=k∧∀ i,i < k→charB i (byteAt s (i:Int)) = true) (fun k st hk hs=>?_) (fun st hs=>?_) ⟨rfl,fun i hi=>by omega⟩
  · obtain ⟨rfl,hi⟩:=hs
    have hstep:charB st (byteAt s (st:Int)) = true→∀ i,i < st + 1→charB i (byteAt s (i:Int)) = true:=by
      intro hc i hik
      by_cases e:i=st
      · subst e; exact hc
      · exact hi i (by omega)
    have hrune:letterB ((Utf8.decode s st).1:Int) = letterB (byteAt s (st:Int))∧restB ((Utf8.decode s st).1:Int) = restB (byteAt s (st:Int))∧(byteAt s (st:Int) < 128→(Utf8.decode s st).2=1):=by
      by_cases hb:byteAt s (st:Int) < 128
      · obtain ⟨e1,e2⟩:=decode_low hb
        rw [e1]; exact ⟨rfl,rfl,fun _=>e2⟩
      · have hd:=decode_high (s:=s) (p:=st) (by omega)
        rw [letter_high hd,rest_high hd,letter_high (by omega),rest_high (by omega)]
        exact ⟨rfl,rfl,fun h=>absurd h hb⟩
    obtain ⟨e1,e2,e3⟩:=hrune
    have hk3:(system_isName_k3 s st (letterB ((Utf8.decode s st).1:Int))).wp (Out (fun s'=>s' = st + 1∧∀ i,i < st + 1→charB i (byteAt s (i:Int)) = true) (fun ov=>(match ov with | .inl rv1=>Comp.ret rv1 | .inr ()=>system_isName_k1:Comp Bool).wp fun a=>a=nameB s)):=by
      unfold system_isName_k3
      rw [e1]
      have hlow:letterB (byteAt s (st:Int)) = true∨restB (byteAt s (st:Int)) = true→(Utf8.decode s st).2=1:=fun h=>e3 (by
        by_cases hb:byteAt s (st:Int) < 128
        · exact hb
        · rw [letter_high (by omega),rest_high (by omega)] at h; simp at h)
      cases hl:letterB (byteAt s (st:Int)) with
      | true=>
        rw [if_pos rfl]
        exact ⟨by rw [hlow (.inl hl)],hstep (by unfold charB; rw [hl]; rfl)⟩
      | false=>
        rw [if_neg (by decide),Comp.wp_ite]
        split
        · rename_i h0
          obtain rfl:st=0:=by omega
          exact (name_no (i:=0) (by omega) (by unfold charB; rw [hl]; simp)).symm
        · rename_i h0
          refine ⟨_,isRest_ret _,?_⟩
          rw [e2,Comp.wp_ite]
          cases hr:restB (byteAt s (st:Int)) with
          | false=>
            rw [if_pos (by decide)]
            exact (name_no (i:=st) hk (by unfold charB; rw [hl,hr]; simp)).symm
          | true=>
            rw [if_neg (by decide)]
            exact ⟨by rw [hlow (.inr hr)],hstep (by unfold charB; rw [hl,hr,decide_eq_true (by omega)]; rfl)⟩
    have hlet:∀ {b:Bool},letterB ((Utf8.decode s st).1:Int) = b→(system_isName_k3 s st b).wp (Out (fun s'=>s' = st + 1∧∀ i,i < st + 1→charB i (byteAt s (i:Int)) = true) (fun ov=>(match ov with | .inl rv1=>Comp.ret rv1 | .inr ()=>system_isName_k1:Comp Bool).wp fun a=>a=nameB s)):=fun h=>by subst h; exact hk3
    show (if st < s.size then _ else _:Comp _).wp _
    rw [Comp.wp_ite,if_pos hk]
    generalize ((Utf8.decode s st).1:Int) = c at *
    rw [Comp.wp_ite]
    split
    · rename_i a
      rw [Comp.wp_ite]
      split
      · rename_i b
        exact hlet (by unfold letterB; rw [decide_eq_true ⟨a,b⟩]; rfl)
      · rename_i b
        rw [Comp.wp_ite]
        split
        · rename_i d
          refine hlet ?_
          unfold letterB
          rw [decide_eq_false (fun h=>b h.2),Bool.false_or]
          exact decide_eq_decide.2 ⟨fun h=>h.2,fun h=>⟨d,h⟩⟩
        · rename_i d
          exact hlet (by unfold letterB; rw [decide_eq_false (fun h=>b h.2),decide_eq_false (fun h=>d h.1)]; rfl)
    · rename_i a
      rw [Comp.wp_ite]
      split
      · rename_i d
        omega
      · rename_i d
        exact hlet (by unfold letterB; rw [decide_eq_false (fun h=>a h.1),decide_eq_false (fun h=>d h.1)]; rfl)
  · obtain ⟨rfl,hi⟩:=hs
    show (if s.size < s.size then _ else _:Comp _).wp _
    rw [Comp.wp_ite,if_neg (by omega)]
    exact (name_yes (by omega) hi).symm
end Go.EL

namespace Go.EL
open Go Go.RowKit
structure EqsOk (n:Nat) (next:Int) (l:List T_api_Equation):Prop where
  len:l.length≤12
  ids:∀ q ∈ l,1≤q.id∧q.id < next
  inc:l.Pairwise fun a b=>a.id < b.id
  pol:∀ q ∈ l,PolOk q.p∧fitB q.p (n:Int) = true
structure Good (s:T_api_System):Prop where
  vars:s.vars.length≤4
  name:∀ v ∈ s.vars,nameB v=true
  diff:s.vars.Pairwise fun a b=>a≠b
  next:1≤s.next∧s.next≤1000000
  eqs:EqsOk s.vars.length s.next s.eqs
  neqs:EqsOk s.vars.length s.next s.neqs
  apart:∀ a ∈ s.eqs,∀ b ∈ s.neqs,a.id≠b.id
theorem within_ret {p:List T_api_Term} (h:PolOk p) {n:Nat} (hn:n≤4) (hf:fitB p (n:Int) = true):(R32_within p (n:Int)).Ret true:=by
  obtain ⟨h1,h2⟩:=(fitB_iff (p:=p) (n:=n) (by omega)).1 hf
  have hw:IntKind.u64.wrap (n:Int) = (n:Int):=by
    match n,hn with
    | 0,_=>rfl
    | 1,_=>rfl
    | 2,_=>rfl
    | 3,_=>rfl
    | 4,_=>rfl
  refine ⟨true,R06_Valid_yes h,_,R06_Degree_ret h,?_⟩
  rw [Comp.wp_ite,if_pos ((degP_le (by omega)).2 h2)]
  refine ⟨_,R06_Uses_ret h.len,by rw [hw]; omega,?_⟩
  have hu:=usesP_lt p
  have hs:=uses_shift.2 h1
  rw [Nat.shiftRight_eq_div_pow] at hs
  have hlt:(usesP p).toNat < 2 ^ n:=by
    rcases Nat.div_eq_zero_iff.1 hs with h|h
    · have:=Nat.two_pow_pos n; omega
    · exact h
  show _=_
  rw [hw,wrap64 (by omega)]
  refine decide_eq_true ?_
  match n,hn with
  | 0,_=>exact Int.lt_of_lt_of_le (show usesP p < 1 by simp at hlt; omega) (by decide)
  | 1,_=>exact Int.lt_of_lt_of_le (show usesP p < 2 by simp at hlt; omega) (by decide)
  | 2,_=>exact Int.lt_of_lt_of_le (show usesP p < 4 by simp at hlt; omega) (by decide)
  | 3,_=>exact Int.lt_of_lt_of_le (show usesP p < 8 by simp at hlt; omega) (by decide)
  | 4,_=>exact Int.lt_of_lt_of_le (show usesP p < 16 by simp at hlt; omega) (by decide)
theorem list_ret {n:Nat} (hn:n≤4) {next:Int} {l:List T_api_Equation} (h:EqsOk n next l):(R32_list l (n:Int) next).Ret true:=by
  have hl:=h.len
  unfold R32_list
  rw [if_neg (by omega)]
  show (Comp.next _ _).wp _
  refine Comp.loop_idx l.length (fun k s=>s=(k:Int)) (fun k s hk hs=>?_) (fun s hs=>?_) rfl
  · subst hs
    have hid:=h.ids _ (List.getElem_mem hk)
    obtain ⟨hp,hf⟩:=h.pol _ (List.getElem_mem hk)
    rw [Comp.wp_ite,if_pos (by omega)]
    refine ⟨l[k],idxN hk,?_⟩
    rw [Comp.wp_ite,if_neg (by omega)]
    refine ⟨l[k],idxN hk,?_⟩
    rw [Comp.wp_ite,if_neg (by omega),Comp.wp_ite]
    split
    · rename_i h0
      obtain ⟨j,rfl⟩:∃ j,k=j + 1:=⟨k - 1,by omega⟩
      have hj:IntKind.i64.wrap (((j + 1:Nat):Int) - 1) = (j:Int):=by rw [wrap64 (by omega)]; omega
      rw [hj]
      have:=List.pairwise_iff_getElem.1 h.inc j (j + 1) (by omega) hk (by omega)
      refine ⟨l[j],idxN (by omega),l[j + 1],idxN hk,?_⟩
      rw [Comp.wp_ite,if_neg (by omega)]
      refine ⟨l[j + 1],idxN hk,true,within_ret hp hn hf,?_⟩
      rw [Comp.wp_ite,if_neg (by decide)]
      exact wrapN (by omega)
    · refine ⟨l[k],idxN hk,true,within_ret hp hn hf,?_⟩
      rw [Comp.wp_ite,if_neg (by decide)]
      exact wrapN (by omega)
  · subst hs
    rw [Comp.wp_ite,if_neg (by omega)]
    rfl
theorem R32_Valid_yes {s:T_api_System} (h:Good s):(R32_Valid s).Ret true:=by
  have hv:=h.vars
  have hn:=h.next
  have he:=h.eqs.len
  have hne:=h.neqs.len
  unfold R32_Valid
  rw [if_neg (by omega),if_neg (by omega),if_neg (by omega)]
  refine ⟨true,list_ret hv h.eqs,true,list_ret hv h.neqs,?_⟩
  rw [Comp.wp_ite,if_neg (by decide)]
  show (Comp.next _ _).wp _
  refine Comp.loop_idx s.vars.length (fun k st=>st=(k:Int)) (fun k st hk hs=>?_) (fun st hs=>?_) rfl
  · subst hs
    rw [Comp.wp_ite,if_pos (by omega)]
    show (Comp.next _ _).wp _
    refine Comp.loop_idx k (fun j st=>st=(j:Int)) (fun j st hj hs=>?_) (fun st hs=>?_) rfl
    · subst hs
      have:=List.pairwise_iff_getElem.1 h.diff j k (by omega) hk hj
      rw [Comp.wp_ite,if_pos (by omega)]
      refine ⟨s.vars[k],idxN hk,s.vars[j],idxN (by omega),?_⟩
      rw [Comp.wp_ite,if_neg (fun e=>this e.symm)]
      exact wrapN (by omega)
    · subst hs
      rw [Comp.wp_ite,if_neg (by omega)]
      show (R32_Valid_k7 s (k:Int)).wp _
      refine ⟨s.vars[k],idxN hk,_,Name_ret _,?_⟩
      rw [h.name _ (List.getElem_mem hk),Comp.wp_ite,if_neg (by decide)]
      exact wrapN (by omega)
  · subst hs
    rw [Comp.wp_ite,if_neg (by omega)]
    show (R32_Valid_k5 s).wp _
    show (Comp.next _ _).wp _
    refine Comp.loop_idx s.eqs.length (fun k st=>st=(k:Int)) (fun k st hk hs=>?_) (fun st hs=>?_) rfl
    · subst hs
      rw [Comp.wp_ite,if_pos (by omega)]
      show (Comp.next _ _).wp _
      refine Comp.loop_idx s.neqs.length (fun j st=>st=(j:Int)) (fun j st hj hs=>?_) (fun st hs=>?_) rfl
      · subst hs
        rw [Comp.wp_ite,if_pos (by omega)]
        refine ⟨s.eqs[k],idxN hk,s.neqs[j],idxN hj,?_⟩
        rw [Comp.wp_ite,if_neg (h.apart _ (List.getElem_mem hk) _ (List.getElem_mem hj))]
        exact wrapN (by omega)
      · subst hs
        rw [Comp.wp_ite,if_neg (by omega)]
        exact wrapN (by omega)
    · subst hs
      rw [Comp.wp_ite,if_neg (by omega)]
      rfl
def idKey (l:List Int):List (Int×Bool):=l.map fun i=>(i,true)
theorem idKey_new {l:List Int} {i:Int} (h:i ∉ l):mput (idKey l) i true=idKey (l++[i])∧mget (idKey l) i=none:=by
  have hn:∀ p ∈ idKey l,p.1≠i:=fun p hp e=>by
    obtain ⟨j,hj,rfl⟩:=List.mem_map.1 hp
    exact h (e ▸ hj)
  exact ⟨by rw [mput_new hn]; simp [idKey],mget_new hn⟩
def idsOf (l:List T_api_Equation):List Int:=l.map (·.id)
theorem idsOf_take_new {l:List T_api_Equation} (h:l.Pairwise fun a b=>a.id < b.id) {k:Nat} (hk:k < l.length):l[k].id ∉ idsOf (l.take k):=fun hm=>by
  obtain ⟨q,hq,e⟩:=List.mem_map.1 hm
  obtain ⟨i,hi,rfl⟩:=List.mem_iff_getElem.1 hq
  simp only [List.length_take] at hi
  rw [List.getElem_take] at e
  have:=List.pairwise_iff_getElem.1 h i k (by omega) hk (by omega)
  omega
theorem Valid_list {s:T_api_System} (hv:s.vars.length≤4) (hnx:s.next≤1000000) {l:List T_api_Equation} (h:EqsOk s.vars.length s.next l) {m:List Int} (hm:∀ q ∈ l,q.id ∉ m) (hml:m.length≤100) :
    (system_Valid_L4 s l (0,idKey m)).Ret (.inr (idKey (m++idsOf l))):=by
  have hl:=h.len
  refine Comp.loop_idx l.length (fun k st=>st=((k:Int),idKey (m++idsOf (l.take k)))) (fun k st hk hs=>?_) (fun st hs=>?_) (by simp [idsOf])
  · subst hs
    have hid:=h.ids _ (List.getElem_mem hk)
    obtain ⟨hp,hf⟩:=h.pol _ (List.getElem_mem hk)
    have hnew:l[k].id ∉ m++idsOf (l.take k):=fun hh=>by
      rcases List.mem_append.1 hh with hh|hh
      · exact hm _ (List.getElem_mem hk) hh
      · exact idsOf_take_new h.inc hk hh
    obtain ⟨hput,hget⟩:=idKey_new hnew
    have hwf:(Lit.int IntKind.i64 l[k].id).wf=true:=by
      simp only [Lit.wf,Bool.and_eq_true,decide_eq_true_eq]
      exact ⟨Int.le_trans (by decide) hid.1,Int.le_trans (Int.le_of_lt (Int.lt_of_lt_of_le hid.2 hnx)) (by decide)⟩
    have hk5:(system_Valid_k5 s (k:Int) (idKey (m++idsOf (l.take k))) l[k]).wp (Out (fun s'=>s' = (((k + 1:Nat):Int),idKey (m++idsOf (l.take (k + 1))))) (fun a=>a=(.inr (idKey (m++idsOf l)):Bool⊕List (Int×Bool)))):=by
      refine ⟨⟨hwf,?_⟩,true,system_fits_ret hp (by omega) |> (hf ▸ ·),?_⟩
      · rw [hput]
        simp [idKey,idsOf,small]; omega
      · rw [Comp.wp_ite,if_neg (by decide)]
        show _=_
        have e:idsOf (l.take (k + 1)) = idsOf (l.take k)++[l[k].id]:=by
          unfold idsOf
          rw [← List.take_append_getElem hk,List.map_append]
          rfl
        rw [hput,wrapN (by omega),List.append_assoc,e]
    show (if (k:Int) < (l.length:Int) then _ else _:Comp _).wp _
    rw [Comp.wp_ite,if_pos (by omega)]
    refine ⟨l[k],idxN hk,?_⟩
    rw [Comp.wp_ite,if_neg (by omega),Comp.wp_ite,if_neg (by omega)]
    refine ⟨hwf,?_⟩
    rw [hget,Comp.wp_ite,if_neg (by simp),Comp.wp_ite]
    split
    · rename_i h0
      obtain ⟨j,rfl⟩:∃ j,k=j + 1:=⟨k - 1,by omega⟩
      have hj:IntKind.i64.wrap (((j + 1:Nat):Int) - 1) = (j:Int):=by rw [wrap64 (by omega)]; omega
      rw [hj]
      have:=List.pairwise_iff_getElem.1 h.inc j (j + 1) (by omega) hk (by omega)
      refine ⟨l[j],idxN (by omega),?_⟩
      rw [Comp.wp_ite,if_neg (by omega)]
      exact hk5
    · exact hk5
  · subst hs
    show (if ((l.length:Nat):Int) < (l.length:Int) then _ else _:Comp _).wp _
    rw [Comp.wp_ite,if_neg (by omega),List.take_length]
    rfl
def nameKey (l:List ByteArray):List (ByteArray×Bool):=l.map fun i=>(i,true)
theorem nameKey_new {l:List ByteArray} {i:ByteArray} (h:i ∉ l):mput (nameKey l) i true=nameKey (l++[i])∧mget (nameKey l) i=none:=by
  have hn:∀ p ∈ nameKey l,p.1≠i:=fun p hp e=>by
    obtain ⟨j,hj,rfl⟩:=List.mem_map.1 hp
    exact h (e ▸ hj)
  exact ⟨by rw [mput_new hn]; simp [nameKey],mget_new hn⟩
theorem name_size {v:ByteArray} (h:nameB v=true):v.size≤12:=by
  unfold nameB at h
  rw [Bool.and_eq_true,decide_eq_true_eq] at h
  exact h.1.2
theorem Valid_eqs {s:T_api_System} (h:Good s):(system_Valid_k6 s).Ret true:=by
  have he:=h.eqs.len
  show (Comp.next _ _).wp _
  refine Comp.loop_idx 2 (fun k st=>st=((k:Int),idKey (if k=0 then [] else if k=1 then idsOf s.eqs else idsOf s.eqs++idsOf s.neqs))) (fun k st hk hs=>?_) (fun st hs=>?_) rfl
  · subst hs
    rcases (show k=0∨k=1 by omega) with rfl|rfl
    · refine ⟨s.eqs,⟨by omega,rfl⟩,?_⟩
      rw [Comp.wp_ite,if_neg (by omega)]
      show (Comp.next _ _).wp _
      refine (Valid_list h.vars h.next.2 h.eqs (m:=[]) (fun _ _=>by simp) (by simp)).then ?_
      rfl
    · have hne:=h.neqs.len
      refine ⟨s.neqs,⟨by omega,rfl⟩,?_⟩
      rw [Comp.wp_ite,if_neg (by omega)]
      show (Comp.next _ _).wp _
      refine (Valid_list h.vars h.next.2 h.neqs (m:=idsOf s.eqs) (fun q hq hm=>?_) (by simp [idsOf]; omega)).then ?_
      · obtain ⟨a,ha,e⟩:=List.mem_map.1 hm
        exact h.apart a ha q hq e
      · rfl
  · subst hs
    rfl
theorem Valid_yes_sys {s:T_api_System} (h:Good s):(system_Valid s).Ret true:=by
  have hv:=h.vars
  have hn:=h.next
  unfold system_Valid
  rw [if_neg (by omega),if_neg (by omega),if_neg (by omega)]
  show (Comp.next _ _).wp _
  refine Comp.loop_idx s.vars.length (fun k st=>st=((k:Int),nameKey (s.vars.take k))) (fun k st hk hs=>?_) (fun st hs=>?_) rfl
  · subst hs
    have hnew:s.vars[k] ∉ s.vars.take k:=fun hm=>by
      obtain ⟨i,hi,e⟩:=List.mem_iff_getElem.1 hm
      simp only [List.length_take] at hi
      rw [List.getElem_take] at e
      exact List.pairwise_iff_getElem.1 h.diff i k (by omega) hk (by omega) e
    obtain ⟨hput,hget⟩:=nameKey_new hnew
    have hnm:=h.name _ (List.getElem_mem hk)
    have hsz:=name_size hnm
    show (if (k:Int) < (s.vars.length:Int) then _ else _:Comp _).wp _
    rw [Comp.wp_ite,if_pos (by omega)]
    refine ⟨s.vars[k],idxN hk,true,hnm ▸ isName_ret _,by omega,?_⟩
    rw [hget,Comp.wp_ite,if_neg (by simp),hput]
    refine ⟨⟨by omega,by simp [nameKey,small]; omega⟩,?_⟩
    show _=_
    rw [wrapN (by omega),List.take_append_getElem hk]
  · subst hs
    show (if ((s.vars.length:Nat):Int) < (s.vars.length:Int) then _ else _:Comp _).wp _
    rw [Comp.wp_ite,if_neg (by omega)]
    exact Valid_eqs h
theorem edit_isName_ret (v:ByteArray):(edit_isName v).Ret (nameB v):=by
  cases hb:nameB v with
  | true=>
    have hg:Good ⟨[v],[],[],1⟩:=⟨by simp,by simpa using hb,by simp,by simp,⟨by simp,by simp,by simp,by simp⟩,⟨by simp,by simp,by simp,by simp⟩,by simp⟩
    exact ⟨true,Valid_yes_sys hg,rfl⟩
  | false=>
    refine ⟨false,?_,rfl⟩
    show (Comp.next _ _).wp _
    refine Comp.loop_fold ?_
    exact ⟨v,⟨by omega,rfl⟩,false,hb ▸ isName_ret v,rfl⟩
end Go.EL

namespace Go.EL
open Go Go.RowKit
def findFrom (id:Int):List T_api_Equation→Nat→Int
  | [],_=>-1
  | x::xs,k=>if x.id=id then (k:Int) else findFrom id xs (k + 1)
def findI (l:List T_api_Equation) (id:Int):Int:=findFrom id l 0
theorem find_ret {l:List T_api_Equation} (hl:l.length≤100) (id:Int):(R33_find l id).Ret (findI l id):=by
  refine Comp.loop_idx l.length (fun k s=>s=(k:Int)∧findI l id=findFrom id (l.drop k) k) (fun k s hk hs=>?_) (fun s hs=>?_) ⟨rfl,rfl⟩
  · obtain ⟨rfl,he⟩:=hs
    rw [List.drop_eq_getElem_cons hk] at he
    simp only [findFrom] at he
    rw [Comp.wp_ite,if_pos (by omega)]
    refine ⟨l[k],idxN hk,?_⟩
    rw [Comp.wp_ite]
    split
    · rename_i h
      rw [if_pos h] at he
      exact he.symm
    · rename_i h
      rw [if_neg h] at he
      exact ⟨wrapN (by omega),he⟩
  · obtain ⟨rfl,he⟩:=hs
    rw [Comp.wp_ite,if_neg (by omega)]
    rw [List.drop_length] at he
    exact he.symm
def idxFrom (v:ByteArray):List ByteArray→Nat→Int
  | [],_=>-1
  | x::xs,k=>if x=v then (k:Int) else idxFrom v xs (k + 1)
def idxI (l:List ByteArray) (v:ByteArray):Int:=idxFrom v l 0
theorem index_ret {s:T_api_System} (hl:s.vars.length≤100) (v:ByteArray):(R33_index s v).Ret (idxI s.vars v):=by
  refine Comp.loop_idx s.vars.length (fun k st=>st=(k:Int)∧idxI s.vars v=idxFrom v (s.vars.drop k) k) (fun k st hk hs=>?_) (fun st hs=>?_) ⟨rfl,rfl⟩
  · obtain ⟨rfl,he⟩:=hs
    rw [List.drop_eq_getElem_cons hk] at he
    simp only [idxFrom] at he
    rw [Comp.wp_ite,if_pos (by omega)]
    refine ⟨s.vars[k],idxN hk,?_⟩
    rw [Comp.wp_ite]
    split
    · rename_i h
      rw [if_pos h] at he
      exact he.symm
    · rename_i h
      rw [if_neg h] at he
      exact ⟨wrapN (by omega),he⟩
  · obtain ⟨rfl,he⟩:=hs
    rw [Comp.wp_ite,if_neg (by omega)]
    rw [List.drop_length] at he
    exact he.symm
theorem Index_ret {l:List ByteArray} (hl:l.length≤100) (v:ByteArray):(slices_Index_string_string l v).Ret (idxI l v):=by
  refine Comp.loop_idx l.length (fun k st=>st=(k:Int)∧idxI l v=idxFrom v (l.drop k) k) (fun k st hk hs=>?_) (fun st hs=>?_) ⟨rfl,rfl⟩
  · obtain ⟨rfl,he⟩:=hs
    rw [List.drop_eq_getElem_cons hk] at he
    simp only [idxFrom] at he
    rw [Comp.wp_ite,if_pos (by omega)]
    refine ⟨l[k],idxN hk,?_⟩
    rw [Comp.wp_ite]
    split
    · rename_i h
      rw [if_pos h.symm] at he
      exact he.symm
    · rename_i h
      rw [if_neg (fun e=>h e.symm)] at he
      exact ⟨wrapN (by omega),he⟩
  · obtain ⟨rfl,he⟩:=hs
    rw [Comp.wp_ite,if_neg (by omega)]
    rw [List.drop_length] at he
    exact he.symm
theorem Contains_ret {l:List ByteArray} (hl:l.length≤100) (v:ByteArray):(slices_Contains_string_string l v).Ret (decide (0≤idxI l v)):=⟨_,Index_ret hl v,rfl⟩
def dropL (l:List T_api_Equation) (id:Int):List T_api_Equation:=l.filter fun q=>decide (¬ q.id=id)
theorem filter_take_succ {α:Type} {l:List α} {k:Nat} (hk:k < l.length) (p:α→Bool):(l.take (k + 1)).filter p=(l.take k).filter p++(if p l[k] = true then [l[k]] else []):=by
  rw [← List.take_append_getElem hk,List.filter_append]
  congr 1
  by_cases h:p l[k] = true <;> simp [h]
theorem drop_ret {l:List T_api_Equation} (hl:l.length≤100) (id:Int):(R33_drop l id).Ret (dropL l id):=by
  show (Comp.next _ _).wp _
  refine Comp.loop_idx l.length (fun k s=>s=(dropL (l.take k) id,(k:Int))) (fun k s hk hs=>?_) (fun s hs=>?_) rfl
  · subst hs
    have e:=filter_take_succ hk fun q=>decide (¬ q.id=id)
    have hlen:(dropL (l.take k) id).length≤k:=Nat.le_trans (List.length_filter_le _ _) (by simp; omega)
    show (if (k:Int) < (l.length:Int) then _ else _:Comp _).wp _
    rw [Comp.wp_ite,if_pos (by omega)]
    refine ⟨l[k],idxN hk,?_⟩
    rw [Comp.wp_ite]
    split
    · rename_i h
      refine ⟨l[k],idxN hk,by simp [small]; omega,?_⟩
      show _=_
      rw [wrapN (by omega)]
      unfold dropL at *
      rw [e,if_pos (decide_eq_true h)]
    · rename_i h
      show _=_
      rw [wrapN (by omega)]
      unfold dropL at *
      rw [e,if_neg (by simpa using h),List.append_nil]
  · subst hs
    show (if ((l.length:Nat):Int) < (l.length:Int) then _ else _:Comp _).wp _
    rw [Comp.wp_ite,if_neg (by omega),List.take_length]
    rfl
def putL (l:List T_api_Equation) (x:T_api_Equation):List T_api_Equation:=l.filter (fun q=>decide (q.id < x.id))++x::l.filter fun q=>decide (x.id < q.id)
theorem filter_all {l:List T_api_Equation} {p:T_api_Equation→Bool} (h:∀ q ∈ l,p q=true):l.filter p=l:=List.filter_eq_self.2 h
theorem filter_none {l:List T_api_Equation} {p:T_api_Equation→Bool} (h:∀ q ∈ l,p q=false):l.filter p = []:=List.filter_eq_nil_iff.2 fun q hq=>by rw [h q hq]; decide
theorem put_ret {l:List T_api_Equation} (hl:l.length≤100) (hi:l.Pairwise fun a b=>a.id < b.id) (x:T_api_Equation):(R33_put l x).Ret (putL l x):=by
  show (Comp.next _ _).wp _
  refine Comp.loop_idx l.length (fun k s=>(s=(l.take k,false,(k:Int))∧∀ q ∈ l.take k,q.id < x.id)∨(s=(putL (l.take k) x,true,(k:Int))∧∃ q ∈ l.take k,x.id≤q.id)) (fun k s hk hs=>?_) (fun s hs=>?_) (.inl ⟨rfl,by simp⟩)
  · have elt:=filter_take_succ hk fun q=>decide (q.id < x.id)
    have egt:=filter_take_succ hk fun q=>decide (x.id < q.id)
    have hlen:(putL (l.take k) x).length≤2 * k + 1:=by
      unfold putL
      have h1:=List.length_filter_le (fun q:T_api_Equation=>decide (q.id < x.id)) (l.take k)
      have h2:=List.length_filter_le (fun q:T_api_Equation=>decide (x.id < q.id)) (l.take k)
      simp only [List.length_append,List.length_cons,List.length_take] at *
      omega
    have hmem:l[k] ∈ l.take (k + 1):=by rw [← List.take_append_getElem hk]; exact List.mem_append_right _ (List.mem_singleton.2 rfl)
    rcases hs with ⟨rfl,hs⟩|⟨rfl,q,hq,hqx⟩
    · rw [Comp.wp_ite,if_pos (by omega),Comp.wp_ite,if_neg (by decide)]
      refine ⟨l[k],idxN hk,?_⟩
      have e1:(l.take k).filter (fun q=>decide (q.id < x.id)) = l.take k:=filter_all fun q hq=>decide_eq_true (hs q hq)
      have e2:(l.take k).filter (fun q=>decide (x.id < q.id)) = []:=filter_none fun q hq=>decide_eq_false (by have:=hs q hq; omega)
      rw [Comp.wp_ite]
      split
      · rename_i hx
        refine ⟨by simp [small]; omega,l[k],idxN hk,?_⟩
        rw [Comp.wp_ite]
        split
        · rename_i hne
          refine ⟨l[k],idxN hk,by simp [small]; omega,.inr ⟨?_,l[k],hmem,hx⟩⟩
          rw [wrapN (by omega)]
          unfold putL
          rw [elt,egt,e1,e2,if_neg (by simp; omega),if_pos (by simp; omega)]
          simp
        · rename_i hne
          refine .inr ⟨?_,l[k],hmem,hx⟩
          rw [wrapN (by omega)]
          unfold putL
          rw [elt,egt,e1,e2,if_neg (by simp; omega),if_neg (by simp; omega)]
          simp
      · rename_i hx
        refine ⟨l[k],idxN hk,?_⟩
        rw [Comp.wp_ite,if_pos (by omega)]
        refine ⟨l[k],idxN hk,by simp [small]; omega,.inl ⟨by rw [wrapN (by omega),List.take_append_getElem hk],fun q hq=>?_⟩⟩
        rw [← List.take_append_getElem hk] at hq
        rcases List.mem_append.1 hq with hq|hq
        · exact hs q hq
        · rw [List.mem_singleton] at hq; subst hq; omega
    · have hgt:x.id < l[k].id:=by
        obtain ⟨i,hi',rfl⟩:=List.mem_iff_getElem.1 hq
        simp only [List.length_take] at hi'
        rw [List.getElem_take] at hqx
        have:=List.pairwise_iff_getElem.1 hi i k (by omega) hk (by omega)
        omega
      rw [Comp.wp_ite,if_pos (by omega),Comp.wp_ite,if_pos rfl]
      refine ⟨l[k],idxN hk,?_⟩
      rw [Comp.wp_ite,if_pos (by omega)]
      refine ⟨l[k],idxN hk,by simp [small]; omega,.inr ⟨?_,l[k],hmem,by omega⟩⟩
      rw [wrapN (by omega)]
      unfold putL
      rw [elt,egt,if_neg (by simp; omega),if_pos (by simp; omega)]
      simp
  · rcases hs with ⟨rfl,hs⟩|⟨rfl,q,hq,hqx⟩
    · rw [Comp.wp_ite,if_neg (by omega)]
      rw [List.take_length] at hs ⊢
      refine ⟨by simp [small]; omega,?_⟩
      show _=putL l x
      unfold putL
      rw [filter_all fun q hq=>decide_eq_true (hs q hq),filter_none fun q hq=>decide_eq_false (by have:=hs q hq; omega)]
    · rw [Comp.wp_ite,if_neg (by omega),List.take_length]
      rfl
def movedL (π:M) (l:List T_api_Equation):List T_api_Equation:=l.map fun q=>⟨q.id,permP π q.p⟩
theorem moved_ret {π:M} (h:IsPerm π) {l:List T_api_Equation} (hl:l.length≤100) (hp:∀ q ∈ l,PolOk q.p):(R33_moved l π).Ret (movedL π l):=by
  show (Comp.next _ _).wp _
  refine Comp.loop_idx l.length (fun k s=>s=(movedL π (l.take k),(k:Int))) (fun k s hk hs=>?_) (fun s hs=>?_) rfl
  · subst hs
    show (if (k:Int) < (l.length:Int) then _ else _:Comp _).wp _
    rw [Comp.wp_ite,if_pos (by omega)]
    refine ⟨l[k],idxN hk,_,R06_Permute_ret h (hp _ (List.getElem_mem hk)),l[k],idxN hk,by simp [movedL,small]; omega,?_⟩
    show _=_
    rw [wrapN (by omega)]
    unfold movedL
    rw [← List.take_append_getElem hk,List.map_append]
    rfl
  · subst hs
    show (if ((l.length:Nat):Int) < (l.length:Int) then _ else _:Comp _).wp _
    rw [Comp.wp_ite,if_neg (by omega),List.take_length]
    rfl
end Go.EL

namespace Go.EL
open Go Go.RowKit
def idM:M:=fun i=>(i.val:Int)
def rotF (a b:Nat):M:=fun i=>if i.val=a then (b:Int) else if a < i.val∧i.val≤b then (i.val:Int) - 1 else if i.val < a∧b≤i.val then (i.val:Int) + 1 else (i.val:Int)
def swapF (a b:Nat):M:=setF (setF idM a (b:Int)) b (a:Int)
theorem rotated_all:(between 0 4 fun a=>between 0 4 fun b=>runs 30 (R33_rotated a b) (rotF a.toNat b.toNat)) = true:=by decide +kernel
theorem rotated_ret {a b:Nat} (ha:a≤4) (hb:b≤4):(R33_rotated (a:Int) (b:Int)).Ret (rotF a b):=by
  have:=between_of (between_of rotated_all (x:=(a:Int)) (by omega) (by omega)) (x:=(b:Int)) (by omega) (by omega)
  exact runs_ret (by simpa using this)
theorem identity_ret:edit_identity.Ret idM:=Comp.Ret.of_ev 20 (by decide +kernel)
theorem rot_perm_all:∀ a b:Fin 5,(∀ i:Fin 8,0≤rotF a.val b.val i∧rotF a.val b.val i < 8)∧∀ i j:Fin 8,rotF a.val b.val i=rotF a.val b.val j→i=j:=by decide +kernel
theorem rot_perm {a b:Nat} (ha:a≤4) (hb:b≤4):IsPerm (rotF a b):=by
  obtain ⟨h1,h2⟩:=rot_perm_all ⟨a,by omega⟩ ⟨b,by omega⟩
  exact ⟨h1,h2⟩
theorem swap_perm_all:∀ a b:Fin 5,(∀ i:Fin 8,0≤swapF a.val b.val i∧swapF a.val b.val i < 8)∧∀ i j:Fin 8,swapF a.val b.val i=swapF a.val b.val j→i=j:=by decide +kernel
theorem swap_perm {a b:Nat} (ha:a≤4) (hb:b≤4):IsPerm (swapF a b):=by
  obtain ⟨h1,h2⟩:=swap_perm_all ⟨a,by omega⟩ ⟨b,by omega⟩
  exact ⟨h1,h2⟩
theorem rot_zero:rotF 0 0=idM:=by decide +kernel
theorem unless_ret {f:Unit→Comp Bool} {b:Bool} (h:(f ()).Ret b) (e:Int):(edit_unless_c1_K f e).Ret (if b=true then 0 else e):=by
  refine ⟨b,h,?_⟩
  rw [Comp.wp_ite]
  split <;> rfl
theorem first_hit {l:List (Unit→Comp Int)} (hl:l.length≤100) {k:Nat} (hk:k < l.length) {e:Int} (h0:∀ j (hj:j < l.length),j < k→(l[j] ()).Ret 0) (h:(l[k] ()).Ret e) (he:e≠0):(edit_first l).Ret e:=by
  show (Comp.next _ _).wp _
  refine Comp.loop_inv (fun s=>∃ j:Nat,s=(j:Int)∧j≤k) (fun s=>k - s.toNat) (fun s hs=>?_) _ ⟨0,rfl,by omega⟩
  obtain ⟨j,rfl,hj⟩:=hs
  show (if (j:Int) < (l.length:Int) then _ else _:Comp _).wp _
  rw [Comp.wp_ite,if_pos (by omega)]
  by_cases hjk:j=k
  · subst hjk
    refine ⟨l[j],idxN hk,e,h,?_⟩
    rw [Comp.wp_ite,if_pos he]
    rfl
  · refine ⟨l[j],idxN (by omega),0,h0 j (by omega) (by omega),?_⟩
    rw [Comp.wp_ite,if_neg (by decide)]
    exact ⟨⟨j + 1,wrapN (by omega),by omega⟩,by rw [wrapN (by omega)]; simp; omega⟩
theorem first_ok {l:List (Unit→Comp Int)} (hl:l.length≤100) (h0:∀ j (hj:j < l.length),(l[j] ()).Ret 0):(edit_first l).Ret 0:=by
  show (Comp.next _ _).wp _
  refine Comp.loop_idx l.length (fun k s=>s=(k:Int)) (fun k s hk hs=>?_) (fun s hs=>?_) rfl
  · subst hs
    show (if (k:Int) < (l.length:Int) then _ else _:Comp _).wp _
    rw [Comp.wp_ite,if_pos (by omega)]
    refine ⟨l[k],idxN hk,0,h0 k hk,?_⟩
    rw [Comp.wp_ite,if_neg (by decide)]
    exact wrapN (by omega)
  · subst hs
    show (if ((l.length:Nat):Int) < (l.length:Int) then _ else _:Comp _).wp _
    rw [Comp.wp_ite,if_neg (by omega)]
    rfl
theorem Clone_ret {l:List ByteArray} (hl:l.length≤100):(slices_Clone_string_string l).Ret l:=by
  refine ⟨fun e=>by subst e; rfl,by simp [small]; omega,rfl⟩
theorem CloneE_ret {l:List T_api_Equation} (hl:l.length≤100):(slices_Clone_api_Equation_api_Equation l).Ret l:=by
  refine ⟨fun e=>by subst e; rfl,by simp [small]; omega,rfl⟩
theorem change_ret {π:M} (h:IsPerm π) {l:List T_api_Equation} (hl:l.length≤100) (hp:∀ q ∈ l,PolOk q.p):(edit_change_api_Equation_edit_permute_c1 l π).Ret (movedL π l):=by
  refine ⟨⟨by omega,by omega⟩,?_⟩
  show (Comp.next _ _).wp _
  refine Comp.loop_idx l.length (fun k s=>s=(movedL π (l.take k)++List.replicate (l.length - k) (T_api_Equation.mk 0 []),(k:Int))) (fun k s hk hs=>?_) (fun s hs=>?_) (by simp [movedL])
  · subst hs
    have hlen:(movedL π (l.take k)).length=k:=by simp [movedL]; omega
    have hrep:List.replicate (l.length - k) (T_api_Equation.mk 0 []) = T_api_Equation.mk 0 []::List.replicate (l.length - (k + 1)) (T_api_Equation.mk 0 []):=by
      rw [show l.length - k=(l.length - (k + 1)) + 1 by omega,List.replicate_succ]
    show (if (k:Int) < (l.length:Int) then _ else _:Comp _).wp _
    rw [Comp.wp_ite,if_pos (by omega)]
    refine ⟨l[k],idxN hk,⟨l[k].id,permP π l[k].p⟩,⟨_,Permute_ret h (hp _ (List.getElem_mem hk)),rfl⟩,T_api_Equation.mk 0 [],⟨by omega,?_⟩,?_⟩
    · rw [Int.toNat_natCast,List.getElem?_append_right (by omega),hlen,Nat.sub_self,hrep]; rfl
    · show _=_
      rw [wrapN (by omega),Int.toNat_natCast,List.set_append_right _ _ (by omega),hlen,Nat.sub_self,hrep,List.set_cons_zero]
      have e:movedL π (l.take (k + 1)) = movedL π (l.take k)++[⟨l[k].id,permP π l[k].p⟩]:=by
        unfold movedL
        rw [← List.take_append_getElem hk,List.map_append]; rfl
      rw [e,List.append_assoc]; rfl
  · subst hs
    show (if ((l.length:Nat):Int) < (l.length:Int) then _ else _:Comp _).wp _
    rw [Comp.wp_ite,if_neg (by omega),List.take_length,Nat.sub_self]
    show _=_
    simp
def permS (π:M) (s:T_api_System):T_api_System:=⟨s.vars,movedL π s.eqs,movedL π s.neqs,s.next⟩
theorem permute_ret {π:M} (h:IsPerm π) {s:T_api_System} (hg:Good s):(edit_permute s π).Ret (permS π s):=
  ⟨_,change_ret h (by have:=hg.eqs.len; omega) (fun q hq=>(hg.eqs.pol q hq).1),_,change_ret h (by have:=hg.neqs.len; omega) (fun q hq=>(hg.neqs.pol q hq).1),rfl⟩
end Go.EL

namespace Go.EL
open Go Go.RowKit
def usedL (i:Fin 8) (l:List T_api_Equation):Bool:=l.any fun q=>Occurs i q.p
def usedS (i:Fin 8) (s:T_api_System):Bool:=usedL i s.eqs || usedL i s.neqs
theorem usedL_no {i:Fin 8} {l:List T_api_Equation} (h:∀ k (hk:k < l.length),Occurs i l[k].p=false):usedL i l=false:=by
  unfold usedL
  rw [List.any_eq_false]
  intro q hq
  obtain ⟨k,hk,rfl⟩:=List.mem_iff_getElem.1 hq
  rw [h k hk]; decide
theorem usedL_yes {i:Fin 8} {l:List T_api_Equation} {k:Nat} (hk:k < l.length) (h:Occurs i l[k].p=true):usedL i l=true:=by
  unfold usedL
  rw [List.any_eq_true]
  exact ⟨_,List.getElem_mem hk,h⟩
theorem used_ret {s:T_api_System} (h:Good s) (i:Fin 8):(R33_used s (i.val:Int)).Ret (usedS i s):=by
  have he:=h.eqs.len
  have hn:=h.neqs.len
  show (Comp.next _ _).wp _
  refine Comp.loop_idx s.eqs.length (fun k st=>st=(k:Int)∧∀ j (hj:j < s.eqs.length),j < k→Occurs i s.eqs[j].p=false) (fun k st hk hs=>?_) (fun st hs=>?_) ⟨rfl,fun j _ hj=>by omega⟩
  · obtain ⟨rfl,hi⟩:=hs
    have hp:=(h.eqs.pol _ (List.getElem_mem hk)).1
    rw [Comp.wp_ite,if_pos (by omega)]
    refine ⟨s.eqs[k],idxN hk,_,R06_Uses_ret hp.len,by omega,?_⟩
    rw [Comp.wp_ite]
    split
    · rename_i hu
      show true=usedS i s
      unfold usedS
      rw [usedL_yes hk ((used_ref _ i).1 hu)]; rfl
    · rename_i hu
      refine ⟨wrapN (by omega),fun j hj hjk=>?_⟩
      by_cases e:j=k
      · subst e
        exact Bool.eq_false_iff.2 fun ho=>hu ((used_ref _ i).2 ho)
      · exact hi j hj (by omega)
  · obtain ⟨rfl,hi⟩:=hs
    have e1:=usedL_no (i:=i) fun j hj=>hi j hj hj
    rw [Comp.wp_ite,if_neg (by omega)]
    show (R33_used_k3 s (i.val:Int)).wp _
    show (Comp.next _ _).wp _
    refine Comp.loop_idx s.neqs.length (fun k st=>st=(k:Int)∧∀ j (hj:j < s.neqs.length),j < k→Occurs i s.neqs[j].p=false) (fun k st hk hs=>?_) (fun st hs=>?_) ⟨rfl,fun j _ hj=>by omega⟩
    · obtain ⟨rfl,hi⟩:=hs
      have hp:=(h.neqs.pol _ (List.getElem_mem hk)).1
      rw [Comp.wp_ite,if_pos (by omega)]
      refine ⟨s.neqs[k],idxN hk,_,R06_Uses_ret hp.len,by omega,?_⟩
      rw [Comp.wp_ite]
      split
      · rename_i hu
        show true=usedS i s
        unfold usedS
        rw [usedL_yes hk ((used_ref _ i).1 hu),Bool.or_true]
      · rename_i hu
        refine ⟨wrapN (by omega),fun j hj hjk=>?_⟩
        by_cases e:j=k
        · subst e
          exact Bool.eq_false_iff.2 fun ho=>hu ((used_ref _ i).2 ho)
        · exact hi j hj (by omega)
    · obtain ⟨rfl,hi⟩:=hs
      rw [Comp.wp_ite,if_neg (by omega)]
      show false=usedS i s
      unfold usedS
      rw [e1,usedL_no fun j hj=>hi j hj hj]; rfl
theorem Concat_ret {a b:List T_api_Equation} (ha:a.length≤100) (hb:b.length≤100):(slices_Concat_api_Equation_api_Equation [a,b]).Ret (a++b):=by
  show (Comp.next _ _).wp _
  refine Comp.loop_idx 2 (fun k st=>st=((if k=0 then 0 else if k=1 then (a.length:Int) else (a.length:Int) + (b.length:Int)),(k:Int))) (fun k st hk hs=>?_) (fun st hs=>?_) rfl
  · subst hs
    rcases (show k=0∨k=1 by omega) with rfl|rfl
    · refine ⟨a,⟨by omega,rfl⟩,?_⟩
      have hw:IntKind.i64.wrap (0 + (a.length:Int)) = (a.length:Int):=by rw [wrap64 (by omega)]; omega
      simp only [if_pos]
      rw [hw,Comp.wp_ite,if_neg (by omega)]
      rfl
    · refine ⟨b,⟨by omega,rfl⟩,?_⟩
      have hw:IntKind.i64.wrap ((a.length:Int) + (b.length:Int)) = (a.length:Int) + (b.length:Int):=by rw [wrap64 (by omega)]
      simp only [show ¬ (1=0) by decide,if_false,if_true]
      rw [hw,Comp.wp_ite,if_neg (by omega)]
      rfl
  · subst hs
    show (slices_Concat_api_Equation_api_Equation_k3 [a,b] ((a.length:Int) + (b.length:Int))).wp _
    refine ⟨[],⟨⟨by omega,by omega⟩,rfl⟩,?_⟩
    show (Comp.next _ _).wp _
    refine Comp.loop_idx 2 (fun k st=>st=((if k=0 then [] else if k=1 then a else a++b),(k:Int))) (fun k st hk hs=>?_) (fun st hs=>?_) rfl
    · subst hs
      rcases (show k=0∨k=1 by omega) with rfl|rfl
      · exact ⟨a,⟨by omega,rfl⟩,by simp [small]; omega,by simp; rfl⟩
      · exact ⟨b,⟨by omega,rfl⟩,by simp [small]; omega,rfl⟩
    · subst hs
      rfl
theorem unused_ret {s:T_api_System} (h:Good s) {e:T_api_Edit} (i:Fin 8) (hi:e.at' = (i.val:Int)):(edit_dropVar_c1_K s e).Ret (!usedS i s):=by
  have he:=h.eqs.len
  have hn:=h.neqs.len
  have hu:usedS i s=usedL i (s.eqs++s.neqs):=by unfold usedS usedL; rw [List.any_append]
  have hlen:(s.eqs++s.neqs).length≤24:=by rw [List.length_append]; omega
  refine ⟨_,Concat_ret (by omega) (by omega),?_⟩
  rw [hu]
  have hp:∀ q ∈ s.eqs++s.neqs,PolOk q.p:=fun q hq=>by
    rcases List.mem_append.1 hq with hq|hq
    · exact (h.eqs.pol q hq).1
    · exact (h.neqs.pol q hq).1
  generalize s.eqs++s.neqs=l at *
  show (Comp.next _ _).wp _
  refine Comp.loop_idx l.length (fun k st=>st=(k:Int)∧∀ j (hj:j < l.length),j < k→Occurs i l[j].p=false) (fun k st hk hs=>?_) (fun st hs=>?_) ⟨rfl,fun j _ hj=>by omega⟩
  · obtain ⟨rfl,hi'⟩:=hs
    show (if (k:Int) < (l.length:Int) then _ else _:Comp _).wp _
    rw [Comp.wp_ite,if_pos (by omega)]
    refine ⟨l[k],idxN hk,_,Uses_ret (hp _ (List.getElem_mem hk)).len,by omega,?_⟩
    rw [hi,Comp.wp_ite]
    split
    · rename_i hu'
      show false = !usedL i l
      rw [usedL_yes hk ((used_edit _ i).1 hu')]; rfl
    · rename_i hu'
      refine ⟨wrapN (by omega),fun j hj hjk=>?_⟩
      by_cases ej:j=k
      · subst ej
        exact Bool.eq_false_iff.2 fun ho=>hu' ((used_edit _ i).2 ho)
      · exact hi' j hj (by omega)
  · obtain ⟨rfl,hi'⟩:=hs
    show (if ((l.length:Nat):Int) < (l.length:Int) then _ else _:Comp _).wp _
    rw [Comp.wp_ite,if_neg (by omega)]
    show true = !usedL i l
    rw [usedL_no fun j hj=>hi' j hj hj]; rfl
end Go.EL

