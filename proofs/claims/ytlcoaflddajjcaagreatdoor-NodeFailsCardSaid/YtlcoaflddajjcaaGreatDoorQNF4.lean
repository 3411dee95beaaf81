import Derived.Test.YtlcoaflddajjcaaGreatDoorQNF2
import Derived.Test.YtlcoaflddajjcaaGreatDoorQNF3
import Derived.Test.YtlcoaflddajjcaaGreatDoorProg
import Derived.WideKeyRuns
set_option linter.defProp false
set_option linter.unusedSectionVars false
set_option linter.unusedSimpArgs false
set_option linter.unusedVariables false
set_option maxRecDepth 20000
set_option linter.defProp false
namespace Go.Proofs.YtlcoaflddajjcaaGreatDoor
open Go.SL
def TP(i:TypeId)(a b:TypeInfo):Prop:=Tryz.prog.underlying i=some a.desc∧Tryz.prog.info? i=some b
def adb:TP 1 Tryz.t1 Tryz.t1:=⟨ah,ah⟩
def ada:TP 2 Tryz.t2 Tryz.t2:=⟨ah,ah⟩
def ac':TP 3 Tryz.t3 Tryz.t3:=⟨ah,ah⟩
def ac9:TP 4 Tryz.t4 Tryz.t4:=⟨ah,ah⟩
def ac8:TP 5 Tryz.t5 Tryz.t5:=⟨ah,ah⟩
def ac7:TP 6 Tryz.t5 Tryz.t6:=⟨ah,ah⟩
def ac6:TP 7 Tryz.t7 Tryz.t7:=⟨ah,ah⟩
def ac5:TP 8 Tryz.t7 Tryz.t8:=⟨ah,ah⟩
def ac4:TP 9 Tryz.t9 Tryz.t9:=⟨ah,ah⟩
def abv:TP 10 Tryz.t9 Tryz.t10:=⟨ah,ah⟩
def abu:TP 11 Tryz.t9 Tryz.t11:=⟨ah,ah⟩
def abt:TP 12 Tryz.t12 Tryz.t12:=⟨ah,ah⟩
def abr:TP 13 Tryz.t13 Tryz.t13:=⟨ah,ah⟩
def abq:TP 14 Tryz.t13 Tryz.t14:=⟨ah,ah⟩
def abp:TP 15 Tryz.t15 Tryz.t15:=⟨ah,ah⟩
def abo:TP 16 Tryz.t16 Tryz.t16:=⟨ah,ah⟩
def abn:TP 17 Tryz.t17 Tryz.t17:=⟨ah,ah⟩
def abm:TP 18 Tryz.t18 Tryz.t18:=⟨ah,ah⟩
def abl:TP 19 Tryz.t18 Tryz.t19:=⟨ah,ah⟩
def abk:TP 20 Tryz.t20 Tryz.t20:=⟨ah,ah⟩
def abj:TP 21 Tryz.t21 Tryz.t21:=⟨ah,ah⟩
def abi:TP 22 Tryz.t22 Tryz.t22:=⟨ah,ah⟩
def abh:TP 23 Tryz.t23 Tryz.t23:=⟨ah,ah⟩
def abg:TP 24 Tryz.t24 Tryz.t24:=⟨ah,ah⟩
def abf:TP 25 Tryz.t3 Tryz.t25:=⟨ah,ah⟩
def abe:TP 27 Tryz.t27 Tryz.t27:=⟨ah,ah⟩
def abd:TP 28 Tryz.t28 Tryz.t28:=⟨ah,ah⟩
def abc:TP 30 Tryz.t30 Tryz.t30:=⟨ah,ah⟩
def abb:TP 31 Tryz.t31 Tryz.t31:=⟨ah,ah⟩
def aba:TP 32 Tryz.t31 Tryz.t32:=⟨ah,ah⟩
def aa':TP 34 Tryz.t34 Tryz.t34:=⟨ah,ah⟩
def aa9:TP 35 Tryz.t35 Tryz.t35:=⟨ah,ah⟩
def aa8:TP 36 Tryz.t36 Tryz.t36:=⟨ah,ah⟩
def aa7:TP 37 Tryz.t36 Tryz.t37:=⟨ah,ah⟩
def aa6:TP 38 Tryz.t38 Tryz.t38:=⟨ah,ah⟩
def aa5:TP 39 Tryz.t39 Tryz.t39:=⟨ah,ah⟩
def aa4:TP 41 Tryz.t41 Tryz.t41:=⟨ah,ah⟩
def aa3:TP 42 Tryz.t42 Tryz.t42:=⟨ah,ah⟩
def aa2:TP 43 Tryz.t43 Tryz.t43:=⟨ah,ah⟩
def aa1:TP 45 Tryz.t45 Tryz.t45:=⟨ah,ah⟩
def aa0:TP 46 Tryz.t46 Tryz.t46:=⟨ah,ah⟩
def aaZ:TP 47 Tryz.t47 Tryz.t47:=⟨ah,ah⟩
def aaY:TP 49 Tryz.t49 Tryz.t49:=⟨ah,ah⟩
def aaX:TP 50 Tryz.t50 Tryz.t50:=⟨ah,ah⟩
def aaW:TP 51 Tryz.t51 Tryz.t51:=⟨ah,ah⟩
def aaV:TP 52 Tryz.t52 Tryz.t52:=⟨ah,ah⟩
def aaU:TP 53 Tryz.t53 Tryz.t53:=⟨ah,ah⟩
def aaT:TP 54 Tryz.t54 Tryz.t54:=⟨ah,ah⟩
def aaS:TP 55 Tryz.t55 Tryz.t55:=⟨ah,ah⟩
def aaR:TP 56 Tryz.t55 Tryz.t56:=⟨ah,ah⟩
def aaQ:TP 57 Tryz.t57 Tryz.t57:=⟨ah,ah⟩
def aaP:TP 58 Tryz.t57 Tryz.t58:=⟨ah,ah⟩
def aaO:TP 59 Tryz.t59 Tryz.t59:=⟨ah,ah⟩
def aaN:TP 61 Tryz.t61 Tryz.t61:=⟨ah,ah⟩
def aaM:TP 62 Tryz.t62 Tryz.t62:=⟨ah,ah⟩
def aaL:TP 63 Tryz.t63 Tryz.t63:=⟨ah,ah⟩
def aaK:TP 64 Tryz.t64 Tryz.t64:=⟨ah,ah⟩
def aaJ:TP 65 Tryz.t65 Tryz.t65:=⟨ah,ah⟩
def aaI:TP 66 Tryz.t65 Tryz.t66:=⟨ah,ah⟩
def aaH:TP 67 Tryz.t67 Tryz.t67:=⟨ah,ah⟩
def aaG:TP 68 Tryz.t67 Tryz.t68:=⟨ah,ah⟩
def aaF:TP 69 Tryz.t69 Tryz.t69:=⟨ah,ah⟩
def aaE:TP 70 Tryz.t70 Tryz.t70:=⟨ah,ah⟩
def aaD:TP 71 Tryz.t71 Tryz.t71:=⟨ah,ah⟩
def aaC:TP 72 Tryz.t71 Tryz.t72:=⟨ah,ah⟩
def aaB:TP 73 Tryz.t73 Tryz.t73:=⟨ah,ah⟩
def aaA:TP 74 Tryz.t74 Tryz.t74:=⟨ah,ah⟩
def aaz:TP 75 Tryz.t74 Tryz.t75:=⟨ah,ah⟩
def aay:TP 76 Tryz.t76 Tryz.t76:=⟨ah,ah⟩
def aax:TP 77 Tryz.t76 Tryz.t77:=⟨ah,ah⟩
def aaw:TP 79 Tryz.t79 Tryz.t79:=⟨ah,ah⟩
def aav:TP 80 Tryz.t80 Tryz.t80:=⟨ah,ah⟩
def aau:TP 81 Tryz.t80 Tryz.t81:=⟨ah,ah⟩
def aat:TP 82 Tryz.t82 Tryz.t82:=⟨ah,ah⟩
def aas:TP 84 Tryz.t84 Tryz.t84:=⟨ah,ah⟩
def aar:TP 85 Tryz.t85 Tryz.t85:=⟨ah,ah⟩
def aaq:TP 86 Tryz.t85 Tryz.t86:=⟨ah,ah⟩
def aap:TP 87 Tryz.t87 Tryz.t87:=⟨ah,ah⟩
def aao:TP 88 Tryz.t88 Tryz.t88:=⟨ah,ah⟩
def aan:TP 89 Tryz.t89 Tryz.t89:=⟨ah,ah⟩
def aam:TP 90 Tryz.t90 Tryz.t90:=⟨ah,ah⟩
def aal:TP 91 Tryz.t91 Tryz.t91:=⟨ah,ah⟩
def aak:TP 92 Tryz.t92 Tryz.t92:=⟨ah,ah⟩
def aaj:TP 93 Tryz.t93 Tryz.t93:=⟨ah,ah⟩
def aai:TP 94 Tryz.t94 Tryz.t94:=⟨ah,ah⟩
def aah:TP 95 Tryz.t95 Tryz.t95:=⟨ah,ah⟩
def aag:TP 96 Tryz.t96 Tryz.t96:=⟨ah,ah⟩
def aaf:TP 97 Tryz.t97 Tryz.t97:=⟨ah,ah⟩
def aae:TP 98 Tryz.t97 Tryz.t98:=⟨ah,ah⟩
def Ym:TP 100 Tryz.t100 Tryz.t100:=⟨ah,ah⟩
def Yl:TP 101 Tryz.t101 Tryz.t101:=⟨ah,ah⟩
def Yk:TP 103 Tryz.t103 Tryz.t103:=⟨ah,ah⟩
def Yj:TP 105 Tryz.t105 Tryz.t105:=⟨ah,ah⟩
def Yi:TP 107 Tryz.t107 Tryz.t107:=⟨ah,ah⟩
def Yh:TP 109 Tryz.t109 Tryz.t109:=⟨ah,ah⟩
def Yg:TP 110 Tryz.t110 Tryz.t110:=⟨ah,ah⟩
def Yf:TP 112 Tryz.t112 Tryz.t112:=⟨ah,ah⟩
def Ye:TP 113 Tryz.t113 Tryz.t113:=⟨ah,ah⟩
def Yd:TP 114 Tryz.t114 Tryz.t114:=⟨ah,ah⟩
def Yc:TP 115 Tryz.t115 Tryz.t115:=⟨ah,ah⟩
def Yb:TP 116 Tryz.t116 Tryz.t116:=⟨ah,ah⟩
def Ya:TP 117 Tryz.t116 Tryz.t117:=⟨ah,ah⟩
def X':TP 118 Tryz.t118 Tryz.t118:=⟨ah,ah⟩
def X9:TP 119 Tryz.t119 Tryz.t119:=⟨ah,ah⟩
def X8:TP 121 Tryz.t121 Tryz.t121:=⟨ah,ah⟩
def X7:TP 122 Tryz.t122 Tryz.t122:=⟨ah,ah⟩
def X6:TP 123 Tryz.t123 Tryz.t123:=⟨ah,ah⟩
def X5:TP 125 Tryz.t125 Tryz.t125:=⟨ah,ah⟩
def X4:TP 126 Tryz.t126 Tryz.t126:=⟨ah,ah⟩
def X3:TP 128 Tryz.t128 Tryz.t128:=⟨ah,ah⟩
def X2:TP 129 Tryz.t129 Tryz.t129:=⟨ah,ah⟩
def X1:TP 130 Tryz.t130 Tryz.t130:=⟨ah,ah⟩
def X0:TP 131 Tryz.t130 Tryz.t131:=⟨ah,ah⟩
def XZ:TP 133 Tryz.t133 Tryz.t133:=⟨ah,ah⟩
def XY:TP 134 Tryz.t134 Tryz.t134:=⟨ah,ah⟩
def XX:TP 135 Tryz.t135 Tryz.t135:=⟨ah,ah⟩
def XW:TP 136 Tryz.t136 Tryz.t136:=⟨ah,ah⟩
def XV:TP 137 Tryz.t136 Tryz.t137:=⟨ah,ah⟩
def XU:TP 139 Tryz.t139 Tryz.t139:=⟨ah,ah⟩
def XT:TP 140 Tryz.t140 Tryz.t140:=⟨ah,ah⟩
def XS:TP 141 Tryz.t141 Tryz.t141:=⟨ah,ah⟩
def XR:TP 143 Tryz.t143 Tryz.t143:=⟨ah,ah⟩
def XQ:TP 144 Tryz.t144 Tryz.t144:=⟨ah,ah⟩
def XP:TP 145 Tryz.t145 Tryz.t145:=⟨ah,ah⟩
def XO:TP 146 Tryz.t145 Tryz.t146:=⟨ah,ah⟩
def XN:TP 147 Tryz.t147 Tryz.t147:=⟨ah,ah⟩
def XM:TP 148 Tryz.t148 Tryz.t148:=⟨ah,ah⟩
def XL:TP 149 Tryz.t149 Tryz.t149:=⟨ah,ah⟩
def XK:TP 150 Tryz.t150 Tryz.t150:=⟨ah,ah⟩
def XJ:TP 151 Tryz.t151 Tryz.t151:=⟨ah,ah⟩
def XI:TP 153 Tryz.t153 Tryz.t153:=⟨ah,ah⟩
def XH:TP 154 Tryz.t154 Tryz.t154:=⟨ah,ah⟩
def XG:TP 155 Tryz.t155 Tryz.t155:=⟨ah,ah⟩
def XF:TP 156 Tryz.t155 Tryz.t156:=⟨ah,ah⟩
def XE:TP 157 Tryz.t157 Tryz.t157:=⟨ah,ah⟩
def XD:TP 158 Tryz.t158 Tryz.t158:=⟨ah,ah⟩
def XC:TP 159 Tryz.t159 Tryz.t159:=⟨ah,ah⟩
def XB:TP 160 Tryz.t160 Tryz.t160:=⟨ah,ah⟩
def XA:TP 161 Tryz.t161 Tryz.t161:=⟨ah,ah⟩
def Xz:TP 162 Tryz.t162 Tryz.t162:=⟨ah,ah⟩
def Xy:TP 163 Tryz.t162 Tryz.t163:=⟨ah,ah⟩
def Xx:TP 164 Tryz.t164 Tryz.t164:=⟨ah,ah⟩
def Xw:TP 165 Tryz.t165 Tryz.t165:=⟨ah,ah⟩
def Xv:TP 166 Tryz.t166 Tryz.t166:=⟨ah,ah⟩
def Xu:TP 167 Tryz.t167 Tryz.t167:=⟨ah,ah⟩
def Xt:TP 168 Tryz.t167 Tryz.t168:=⟨ah,ah⟩
def Xr:TP 169 Tryz.t169 Tryz.t169:=⟨ah,ah⟩
def Xq:TP 170 Tryz.t170 Tryz.t170:=⟨ah,ah⟩
def Xp:TP 171 Tryz.t170 Tryz.t171:=⟨ah,ah⟩
def Xo:TP 172 Tryz.t172 Tryz.t172:=⟨ah,ah⟩
def Xn:TP 173 Tryz.t173 Tryz.t173:=⟨ah,ah⟩
def Xm:TP 174 Tryz.t173 Tryz.t174:=⟨ah,ah⟩
def Xl:TP 175 Tryz.t175 Tryz.t175:=⟨ah,ah⟩
def Xk:TP 176 Tryz.t176 Tryz.t176:=⟨ah,ah⟩
def Xj:TP 177 Tryz.t177 Tryz.t177:=⟨ah,ah⟩
def Xi:TP 178 Tryz.t178 Tryz.t178:=⟨ah,ah⟩
def Xh:TP 179 Tryz.t179 Tryz.t179:=⟨ah,ah⟩
def Xg:TP 180 Tryz.t179 Tryz.t180:=⟨ah,ah⟩
def Xf:TP 181 Tryz.t181 Tryz.t181:=⟨ah,ah⟩
def Xe:TP 182 Tryz.t182 Tryz.t182:=⟨ah,ah⟩
def Xd:TP 183 Tryz.t183 Tryz.t183:=⟨ah,ah⟩
def Xc:TP 184 Tryz.t184 Tryz.t184:=⟨ah,ah⟩
def Xb:TP 185 Tryz.t185 Tryz.t185:=⟨ah,ah⟩
def Xa:TP 186 Tryz.t185 Tryz.t186:=⟨ah,ah⟩
def W9:TP 187 Tryz.t187 Tryz.t187:=⟨ah,ah⟩
def W8:TP 188 Tryz.t188 Tryz.t188:=⟨ah,ah⟩
def W7:TP 189 Tryz.t188 Tryz.t189:=⟨ah,ah⟩
def W6:TP 190 Tryz.t190 Tryz.t190:=⟨ah,ah⟩
def W5:TP 191 Tryz.t190 Tryz.t191:=⟨ah,ah⟩
def W4:TP 192 Tryz.t192 Tryz.t192:=⟨ah,ah⟩
def W3:TP 193 Tryz.t193 Tryz.t193:=⟨ah,ah⟩
def W2:TP 194 Tryz.t194 Tryz.t194:=⟨ah,ah⟩
def W1:TP 195 Tryz.t195 Tryz.t195:=⟨ah,ah⟩
def W0:TP 196 Tryz.t196 Tryz.t196:=⟨ah,ah⟩
def WZ:TP 197 Tryz.t197 Tryz.t197:=⟨ah,ah⟩
def WY:TP 198 Tryz.t198 Tryz.t198:=⟨ah,ah⟩
def WX:TP 199 Tryz.t199 Tryz.t199:=⟨ah,ah⟩
def WW:TP 200 Tryz.t200 Tryz.t200:=⟨ah,ah⟩
def WV:TP 201 Tryz.t201 Tryz.t201:=⟨ah,ah⟩
def WU:TP 202 Tryz.t202 Tryz.t202:=⟨ah,ah⟩
def WT:TP 203 Tryz.t203 Tryz.t203:=⟨ah,ah⟩
def WS:TP 204 Tryz.t204 Tryz.t204:=⟨ah,ah⟩
def WR:TP 205 Tryz.t205 Tryz.t205:=⟨ah,ah⟩
def WQ:TP 206 Tryz.t206 Tryz.t206:=⟨ah,ah⟩
def WO:TP 208 Tryz.t208 Tryz.t208:=⟨ah,ah⟩
def WN:TP 209 Tryz.t209 Tryz.t209:=⟨ah,ah⟩
def WM:TP 210 Tryz.t210 Tryz.t210:=⟨ah,ah⟩
def WL:TP 211 Tryz.t211 Tryz.t211:=⟨ah,ah⟩
def WK:TP 213 Tryz.t213 Tryz.t213:=⟨ah,ah⟩
def WJ:TP 214 Tryz.t213 Tryz.t214:=⟨ah,ah⟩
def WI:TP 215 Tryz.t215 Tryz.t215:=⟨ah,ah⟩
def WH:TP 216 Tryz.t216 Tryz.t216:=⟨ah,ah⟩
def WG:TP 218 Tryz.t218 Tryz.t218:=⟨ah,ah⟩
def WE:TP 219 Tryz.t219 Tryz.t219:=⟨ah,ah⟩
def WD:TP 220 Tryz.t220 Tryz.t220:=⟨ah,ah⟩
def WC:TP 221 Tryz.t221 Tryz.t221:=⟨ah,ah⟩
def WB:TP 222 Tryz.t222 Tryz.t222:=⟨ah,ah⟩
def WA:TP 223 Tryz.t223 Tryz.t223:=⟨ah,ah⟩
def Wz:TP 224 Tryz.t224 Tryz.t224:=⟨ah,ah⟩
def Wy:TP 225 Tryz.t225 Tryz.t225:=⟨ah,ah⟩
def Wx:TP 226 Tryz.t226 Tryz.t226:=⟨ah,ah⟩
def Ww:TP 227 Tryz.t227 Tryz.t227:=⟨ah,ah⟩
def Wv:TP 228 Tryz.t228 Tryz.t228:=⟨ah,ah⟩
def Wu:TP 229 Tryz.t228 Tryz.t229:=⟨ah,ah⟩
def Ws:TP 230 Tryz.t230 Tryz.t230:=⟨ah,ah⟩
def Wr:TP 231 Tryz.t231 Tryz.t231:=⟨ah,ah⟩
def Wq:TP 232 Tryz.t232 Tryz.t232:=⟨ah,ah⟩
def Wp:TP 233 Tryz.t232 Tryz.t233:=⟨ah,ah⟩
def Wo:TP 234 Tryz.t234 Tryz.t234:=⟨ah,ah⟩
def Wn:TP 235 Tryz.t235 Tryz.t235:=⟨ah,ah⟩
def Wm:TP 236 Tryz.t236 Tryz.t236:=⟨ah,ah⟩
def Wk:TP 237 Tryz.t237 Tryz.t237:=⟨ah,ah⟩
def Wj:TP 239 Tryz.t239 Tryz.t239:=⟨ah,ah⟩
def Wi:TP 240 Tryz.t240 Tryz.t240:=⟨ah,ah⟩
def Wh:TP 241 Tryz.t241 Tryz.t241:=⟨ah,ah⟩
def Wg:TP 242 Tryz.t242 Tryz.t242:=⟨ah,ah⟩
def Wf:TP 243 Tryz.t243 Tryz.t243:=⟨ah,ah⟩
def We:TP 244 Tryz.t244 Tryz.t244:=⟨ah,ah⟩
def Wd:TP 245 Tryz.t245 Tryz.t245:=⟨ah,ah⟩
def Wc:TP 246 Tryz.t245 Tryz.t246:=⟨ah,ah⟩
def Wb:TP 247 Tryz.t247 Tryz.t247:=⟨ah,ah⟩
def Wa:TP 248 Tryz.t248 Tryz.t248:=⟨ah,ah⟩
def V9:TP 249 Tryz.t249 Tryz.t249:=⟨ah,ah⟩
def V8:TP 250 Tryz.t249 Tryz.t250:=⟨ah,ah⟩
def V7:TP 252 Tryz.t252 Tryz.t252:=⟨ah,ah⟩
def V6:TP 253 Tryz.t253 Tryz.t253:=⟨ah,ah⟩
def V5:TP 254 Tryz.t254 Tryz.t254:=⟨ah,ah⟩
def V0:TP 255 Tryz.t255 Tryz.t255:=⟨ah,ah⟩
def VZ:TP 256 Tryz.t256 Tryz.t256:=⟨ah,ah⟩
def VY:TP 257 Tryz.t257 Tryz.t257:=⟨ah,ah⟩
def VX:TP 259 Tryz.t259 Tryz.t259:=⟨ah,ah⟩
def VW:TP 260 Tryz.t260 Tryz.t260:=⟨ah,ah⟩
def VV:TP 261 Tryz.t261 Tryz.t261:=⟨ah,ah⟩
def VU:TP 262 Tryz.t262 Tryz.t262:=⟨ah,ah⟩
def VT:TP 263 Tryz.t263 Tryz.t263:=⟨ah,ah⟩
def VS:TP 264 Tryz.t264 Tryz.t264:=⟨ah,ah⟩
def VR:TP 265 Tryz.t265 Tryz.t265:=⟨ah,ah⟩
def VQ:TP 267 Tryz.t267 Tryz.t267:=⟨ah,ah⟩
def VP:TP 268 Tryz.t268 Tryz.t268:=⟨ah,ah⟩
def VO:TP 270 Tryz.t270 Tryz.t270:=⟨ah,ah⟩
def VN:TP 271 Tryz.t271 Tryz.t271:=⟨ah,ah⟩
def VL:TP 272 Tryz.t271 Tryz.t272:=⟨ah,ah⟩
def VK:TP 274 Tryz.t274 Tryz.t274:=⟨ah,ah⟩
def VJ:TP 275 Tryz.t275 Tryz.t275:=⟨ah,ah⟩
def VI:TP 276 Tryz.t276 Tryz.t276:=⟨ah,ah⟩
def VH:TP 278 Tryz.t278 Tryz.t278:=⟨ah,ah⟩
def VG:TP 279 Tryz.t279 Tryz.t279:=⟨ah,ah⟩
def VF:TP 280 Tryz.t280 Tryz.t280:=⟨ah,ah⟩
def VE:TP 282 Tryz.t282 Tryz.t282:=⟨ah,ah⟩
def VD:TP 283 Tryz.t283 Tryz.t283:=⟨ah,ah⟩
def VC:TP 284 Tryz.t283 Tryz.t284:=⟨ah,ah⟩
def VB:TP 286 Tryz.t286 Tryz.t286:=⟨ah,ah⟩
def VA:TP 287 Tryz.t287 Tryz.t287:=⟨ah,ah⟩
def Vz:TP 288 Tryz.t288 Tryz.t288:=⟨ah,ah⟩
def Vy:TP 289 Tryz.t289 Tryz.t289:=⟨ah,ah⟩
def Vx:TP 290 Tryz.t290 Tryz.t290:=⟨ah,ah⟩
def Vv:TP 291 Tryz.t291 Tryz.t291:=⟨ah,ah⟩
def Vu:TP 292 Tryz.t292 Tryz.t292:=⟨ah,ah⟩
def Vt:TP 293 Tryz.t292 Tryz.t293:=⟨ah,ah⟩
def Vs:TP 295 Tryz.t295 Tryz.t295:=⟨ah,ah⟩
def Vr:TP 296 Tryz.t296 Tryz.t296:=⟨ah,ah⟩
def Vq:TP 297 Tryz.t297 Tryz.t297:=⟨ah,ah⟩
def Vp:TP 299 Tryz.t299 Tryz.t299:=⟨ah,ah⟩
def Vo:TP 301 Tryz.t301 Tryz.t301:=⟨ah,ah⟩
def Vn:TP 302 Tryz.t302 Tryz.t302:=⟨ah,ah⟩
def Vl:TP 303 Tryz.t303 Tryz.t303:=⟨ah,ah⟩
def Vk:TP 304 Tryz.t304 Tryz.t304:=⟨ah,ah⟩
def Vj:TP 305 Tryz.t305 Tryz.t305:=⟨ah,ah⟩
def Vi:TP 306 Tryz.t305 Tryz.t306:=⟨ah,ah⟩
def Vh:TP 307 Tryz.t307 Tryz.t307:=⟨ah,ah⟩
def Vg:TP 308 Tryz.t308 Tryz.t308:=⟨ah,ah⟩
def Vf:TP 309 Tryz.t308 Tryz.t309:=⟨ah,ah⟩
def Ve:TP 310 Tryz.t310 Tryz.t310:=⟨ah,ah⟩
def Vd:TP 311 Tryz.t311 Tryz.t311:=⟨ah,ah⟩
def Vc:TP 312 Tryz.t312 Tryz.t312:=⟨ah,ah⟩
def Vb:TP 313 Tryz.t313 Tryz.t313:=⟨ah,ah⟩
def Va:TP 314 Tryz.t314 Tryz.t314:=⟨ah,ah⟩
def U':TP 315 Tryz.t314 Tryz.t315:=⟨ah,ah⟩
def U9:TP 316 Tryz.t316 Tryz.t316:=⟨ah,ah⟩
def U8:TP 317 Tryz.t317 Tryz.t317:=⟨ah,ah⟩
def U7:TP 318 Tryz.t318 Tryz.t318:=⟨ah,ah⟩
def U6:TP 319 Tryz.t319 Tryz.t319:=⟨ah,ah⟩
def U5:TP 320 Tryz.t320 Tryz.t320:=⟨ah,ah⟩
def U4:TP 321 Tryz.t321 Tryz.t321:=⟨ah,ah⟩
def U3:TP 322 Tryz.t322 Tryz.t322:=⟨ah,ah⟩
def U2:TP 324 Tryz.t324 Tryz.t324:=⟨ah,ah⟩
def U1:TP 326 Tryz.t326 Tryz.t326:=⟨ah,ah⟩
def U0:TP 327 Tryz.t327 Tryz.t327:=⟨ah,ah⟩
def UZ:TP 329 Tryz.t329 Tryz.t329:=⟨ah,ah⟩
def UY:TP 330 Tryz.t330 Tryz.t330:=⟨ah,ah⟩
def UX:TP 331 Tryz.t331 Tryz.t331:=⟨ah,ah⟩
def UW:TP 332 Tryz.t332 Tryz.t332:=⟨ah,ah⟩
def UU:TP 334 Tryz.t334 Tryz.t334:=⟨ah,ah⟩
def UT:TP 335 Tryz.t335 Tryz.t335:=⟨ah,ah⟩
def US:TP 336 Tryz.t336 Tryz.t336:=⟨ah,ah⟩
def UR:TP 337 Tryz.t337 Tryz.t337:=⟨ah,ah⟩
def UQ:TP 338 Tryz.t338 Tryz.t338:=⟨ah,ah⟩
def UP:TP 339 Tryz.t339 Tryz.t339:=⟨ah,ah⟩
def UO:TP 340 Tryz.t340 Tryz.t340:=⟨ah,ah⟩
def UN:TP 341 Tryz.t341 Tryz.t341:=⟨ah,ah⟩
def UM:TP 342 Tryz.t342 Tryz.t342:=⟨ah,ah⟩
def UL:TP 343 Tryz.t343 Tryz.t343:=⟨ah,ah⟩
def UK:TP 344 Tryz.t344 Tryz.t344:=⟨ah,ah⟩
def UJ:TP 346 Tryz.t346 Tryz.t346:=⟨ah,ah⟩
def UI:TP 347 Tryz.t347 Tryz.t347:=⟨ah,ah⟩
def UH:TP 348 Tryz.t348 Tryz.t348:=⟨ah,ah⟩
def UG:TP 349 Tryz.t349 Tryz.t349:=⟨ah,ah⟩
def UF:TP 350 Tryz.t350 Tryz.t350:=⟨ah,ah⟩
def UE:TP 351 Tryz.t222 Tryz.t351:=⟨ah,ah⟩
def UD:TP 352 Tryz.t352 Tryz.t352:=⟨ah,ah⟩
def UC:TP 354 Tryz.t354 Tryz.t354:=⟨ah,ah⟩
def UB:TP 355 Tryz.t354 Tryz.t355:=⟨ah,ah⟩
def UA:TP 356 Tryz.t356 Tryz.t356:=⟨ah,ah⟩
def Uz:TP 358 Tryz.t358 Tryz.t358:=⟨ah,ah⟩
def Uy:TP 359 Tryz.t359 Tryz.t359:=⟨ah,ah⟩
def Ux:TP 360 Tryz.t360 Tryz.t360:=⟨ah,ah⟩
def Uw:TP 361 Tryz.t361 Tryz.t361:=⟨ah,ah⟩
def Uv:TP 362 Tryz.t362 Tryz.t362:=⟨ah,ah⟩
def Uu:TP 363 Tryz.t363 Tryz.t363:=⟨ah,ah⟩
def Ut:TP 365 Tryz.t365 Tryz.t365:=⟨ah,ah⟩
def Us:TP 366 Tryz.t366 Tryz.t366:=⟨ah,ah⟩
def Ur:TP 367 Tryz.t367 Tryz.t367:=⟨ah,ah⟩
def Uq:TP 369 Tryz.t369 Tryz.t369:=⟨ah,ah⟩
def Up:TP 370 Tryz.t370 Tryz.t370:=⟨ah,ah⟩
def Uo:TP 371 Tryz.t371 Tryz.t371:=⟨ah,ah⟩
def Un:TP 372 Tryz.t372 Tryz.t372:=⟨ah,ah⟩
def Um:TP 373 Tryz.t373 Tryz.t373:=⟨ah,ah⟩
def Ul:TP 374 Tryz.t374 Tryz.t374:=⟨ah,ah⟩
def Uk:TP 375 Tryz.t375 Tryz.t375:=⟨ah,ah⟩
def Uj:TP 376 Tryz.t375 Tryz.t376:=⟨ah,ah⟩
def Ui:TP 377 Tryz.t377 Tryz.t377:=⟨ah,ah⟩
def Uh:TP 378 Tryz.t378 Tryz.t378:=⟨ah,ah⟩
def Ug:TP 379 Tryz.t379 Tryz.t379:=⟨ah,ah⟩
def Uf:TP 380 Tryz.t380 Tryz.t380:=⟨ah,ah⟩
def Ue:TP 381 Tryz.t380 Tryz.t381:=⟨ah,ah⟩
def Ud:TP 382 Tryz.t382 Tryz.t382:=⟨ah,ah⟩
def Uc:TP 383 Tryz.t383 Tryz.t383:=⟨ah,ah⟩
def Ub:TP 384 Tryz.t383 Tryz.t384:=⟨ah,ah⟩
def Ua:TP 385 Tryz.t385 Tryz.t385:=⟨ah,ah⟩
def T':TP 386 Tryz.t386 Tryz.t386:=⟨ah,ah⟩
def T9:TP 387 Tryz.t387 Tryz.t387:=⟨ah,ah⟩
def T8:TP 388 Tryz.t388 Tryz.t388:=⟨ah,ah⟩
def T7:TP 389 Tryz.t389 Tryz.t389:=⟨ah,ah⟩
def T6:TP 390 Tryz.t390 Tryz.t390:=⟨ah,ah⟩
def T5:TP 391 Tryz.t391 Tryz.t391:=⟨ah,ah⟩
def T4:TP 392 Tryz.t392 Tryz.t392:=⟨ah,ah⟩
def T3:TP 393 Tryz.t393 Tryz.t393:=⟨ah,ah⟩
def T2:TP 394 Tryz.t394 Tryz.t394:=⟨ah,ah⟩
def T1:TP 395 Tryz.t395 Tryz.t395:=⟨ah,ah⟩
def TZ:TP 396 Tryz.t396 Tryz.t396:=⟨ah,ah⟩
def TY:TP 397 Tryz.t397 Tryz.t397:=⟨ah,ah⟩
def TX:TP 398 Tryz.t398 Tryz.t398:=⟨ah,ah⟩
def TW:TP 400 Tryz.t400 Tryz.t400:=⟨ah,ah⟩
def TV:TP 401 Tryz.t401 Tryz.t401:=⟨ah,ah⟩
def TU:TP 402 Tryz.t402 Tryz.t402:=⟨ah,ah⟩
def TT:TP 403 Tryz.t403 Tryz.t403:=⟨ah,ah⟩
def TS:TP 404 Tryz.t404 Tryz.t404:=⟨ah,ah⟩
def TR:TP 405 Tryz.t405 Tryz.t405:=⟨ah,ah⟩
def TQ:TP 406 Tryz.t406 Tryz.t406:=⟨ah,ah⟩
def TO:TP 407 Tryz.t407 Tryz.t407:=⟨ah,ah⟩
def TN:TP 408 Tryz.t408 Tryz.t408:=⟨ah,ah⟩
def TM:TP 409 Tryz.t409 Tryz.t409:=⟨ah,ah⟩
def TL:TP 410 Tryz.t409 Tryz.t410:=⟨ah,ah⟩
def TK:TP 411 Tryz.t411 Tryz.t411:=⟨ah,ah⟩
def TJ:TP 412 Tryz.t412 Tryz.t412:=⟨ah,ah⟩
def TI:TP 413 Tryz.t413 Tryz.t413:=⟨ah,ah⟩
def TH:TP 414 Tryz.t414 Tryz.t414:=⟨ah,ah⟩
def TG:TP 415 Tryz.t415 Tryz.t415:=⟨ah,ah⟩
def TF:TP 416 Tryz.t416 Tryz.t416:=⟨ah,ah⟩
def TE:TP 417 Tryz.t417 Tryz.t417:=⟨ah,ah⟩
def TD:TP 418 Tryz.t418 Tryz.t418:=⟨ah,ah⟩
def TB:TP 420 Tryz.t420 Tryz.t420:=⟨ah,ah⟩
def TA:TP 421 Tryz.t421 Tryz.t421:=⟨ah,ah⟩
def Tz:TP 422 Tryz.t422 Tryz.t422:=⟨ah,ah⟩
def Tx:TP 424 Tryz.t424 Tryz.t424:=⟨ah,ah⟩
def Tw:TP 426 Tryz.t426 Tryz.t426:=⟨ah,ah⟩
def Tv:TP 427 Tryz.t427 Tryz.t427:=⟨ah,ah⟩
def Tu:TP 428 Tryz.t428 Tryz.t428:=⟨ah,ah⟩
def Tt:TP 429 Tryz.t429 Tryz.t429:=⟨ah,ah⟩
def Ts:TP 430 Tryz.t430 Tryz.t430:=⟨ah,ah⟩
def Tq:TP 431 Tryz.t431 Tryz.t431:=⟨ah,ah⟩
def Tp:TP 432 Tryz.t432 Tryz.t432:=⟨ah,ah⟩
def To:TP 433 Tryz.t433 Tryz.t433:=⟨ah,ah⟩
def Tn:TP 434 Tryz.t434 Tryz.t434:=⟨ah,ah⟩
def Tm:TP 435 Tryz.t435 Tryz.t435:=⟨ah,ah⟩
def Tl:TP 436 Tryz.t436 Tryz.t436:=⟨ah,ah⟩
def Tj:TP 437 Tryz.t437 Tryz.t437:=⟨ah,ah⟩
def Ti:TP 438 Tryz.t437 Tryz.t438:=⟨ah,ah⟩
def Th:TP 439 Tryz.t439 Tryz.t439:=⟨ah,ah⟩
def Tg:TP 440 Tryz.t440 Tryz.t440:=⟨ah,ah⟩
def Tf:TP 442 Tryz.t442 Tryz.t442:=⟨ah,ah⟩
def Te:TP 443 Tryz.t443 Tryz.t443:=⟨ah,ah⟩
def Td:TP 444 Tryz.t443 Tryz.t444:=⟨ah,ah⟩
def Tc:TP 445 Tryz.t445 Tryz.t445:=⟨ah,ah⟩
def Tb:TP 446 Tryz.t446 Tryz.t446:=⟨ah,ah⟩
def Ta:TP 447 Tryz.t447 Tryz.t447:=⟨ah,ah⟩
def S9:TP 448 Tryz.t3 Tryz.t448:=⟨ah,ah⟩
def S8:TP 450 Tryz.t450 Tryz.t450:=⟨ah,ah⟩
def S7:TP 451 Tryz.t451 Tryz.t451:=⟨ah,ah⟩
def S6:TP 452 Tryz.t452 Tryz.t452:=⟨ah,ah⟩
def S5:TP 453 Tryz.t453 Tryz.t453:=⟨ah,ah⟩
def S4:TP 454 Tryz.t454 Tryz.t454:=⟨ah,ah⟩
def S3:TP 455 Tryz.t455 Tryz.t455:=⟨ah,ah⟩
def S0:TP 456 Tryz.t456 Tryz.t456:=⟨ah,ah⟩
def SZ:TP 457 Tryz.t457 Tryz.t457:=⟨ah,ah⟩
def SY:TP 458 Tryz.t458 Tryz.t458:=⟨ah,ah⟩
def SX:TP 459 Tryz.t459 Tryz.t459:=⟨ah,ah⟩
def SV:TP 460 Tryz.t460 Tryz.t460:=⟨ah,ah⟩
def SU:TP 461 Tryz.t461 Tryz.t461:=⟨ah,ah⟩
def SS:TP 462 Tryz.t462 Tryz.t462:=⟨ah,ah⟩
def SR:TP 463 Tryz.t463 Tryz.t463:=⟨ah,ah⟩
def SP:TP 464 Tryz.t464 Tryz.t464:=⟨ah,ah⟩
def SO:TP 465 Tryz.t465 Tryz.t465:=⟨ah,ah⟩
def SN:TP 466 Tryz.t466 Tryz.t466:=⟨ah,ah⟩
def SM:TP 467 Tryz.t467 Tryz.t467:=⟨ah,ah⟩
def SK:TP 468 Tryz.t468 Tryz.t468:=⟨ah,ah⟩
def SH:TP 469 Tryz.t469 Tryz.t469:=⟨ah,ah⟩
def SG:TP 470 Tryz.t470 Tryz.t470:=⟨ah,ah⟩
def SF:TP 471 Tryz.t471 Tryz.t471:=⟨ah,ah⟩
def SE:TP 472 Tryz.t472 Tryz.t472:=⟨ah,ah⟩
def SD:TP 473 Tryz.t473 Tryz.t473:=⟨ah,ah⟩
def SC:TP 474 Tryz.t474 Tryz.t474:=⟨ah,ah⟩
def SB:TP 475 Tryz.t474 Tryz.t475:=⟨ah,ah⟩
def SA:TP 476 Tryz.t476 Tryz.t476:=⟨ah,ah⟩
def Sz:TP 477 Tryz.t477 Tryz.t477:=⟨ah,ah⟩
def Sy:TP 478 Tryz.t478 Tryz.t478:=⟨ah,ah⟩
def Sw:TP 479 Tryz.t479 Tryz.t479:=⟨ah,ah⟩
def Sv:TP 481 Tryz.t481 Tryz.t481:=⟨ah,ah⟩
def Su:TP 482 Tryz.t482 Tryz.t482:=⟨ah,ah⟩
def Ss:TP 483 Tryz.t483 Tryz.t483:=⟨ah,ah⟩
def Sr:TP 484 Tryz.t484 Tryz.t484:=⟨ah,ah⟩
def Sq:TP 485 Tryz.t485 Tryz.t485:=⟨ah,ah⟩
def Sp:TP 486 Tryz.t486 Tryz.t486:=⟨ah,ah⟩
def Sn:TP 487 Tryz.t487 Tryz.t487:=⟨ah,ah⟩
def Sm:TP 488 Tryz.t488 Tryz.t488:=⟨ah,ah⟩
def Sl:TP 489 Tryz.t489 Tryz.t489:=⟨ah,ah⟩
def Sk:TP 490 Tryz.t490 Tryz.t490:=⟨ah,ah⟩
def Sj:TP 491 Tryz.t491 Tryz.t491:=⟨ah,ah⟩
def Si:TP 493 Tryz.t493 Tryz.t493:=⟨ah,ah⟩
def Sh:TP 494 Tryz.t494 Tryz.t494:=⟨ah,ah⟩
def Sg:TP 495 Tryz.t495 Tryz.t495:=⟨ah,ah⟩
def Sf:TP 496 Tryz.t46 Tryz.t496:=⟨ah,ah⟩
def Se:TP 497 Tryz.t497 Tryz.t497:=⟨ah,ah⟩
def Sd:TP 498 Tryz.t498 Tryz.t498:=⟨ah,ah⟩
def Sc:TP 499 Tryz.t499 Tryz.t499:=⟨ah,ah⟩
def Sb:TP 500 Tryz.t500 Tryz.t500:=⟨ah,ah⟩
def Sa:TP 501 Tryz.t501 Tryz.t501:=⟨ah,ah⟩
def R':TP 502 Tryz.t502 Tryz.t502:=⟨ah,ah⟩
def R9:TP 503 Tryz.t503 Tryz.t503:=⟨ah,ah⟩
def R8:TP 504 Tryz.t504 Tryz.t504:=⟨ah,ah⟩
def R7:TP 505 Tryz.t505 Tryz.t505:=⟨ah,ah⟩
def R6:TP 506 Tryz.t506 Tryz.t506:=⟨ah,ah⟩
def R5:TP 507 Tryz.t507 Tryz.t507:=⟨ah,ah⟩
def R4:TP 508 Tryz.t508 Tryz.t508:=⟨ah,ah⟩
def R3:TP 509 Tryz.t509 Tryz.t509:=⟨ah,ah⟩
def R1:TP 510 Tryz.t510 Tryz.t510:=⟨ah,ah⟩
def R0:TP 511 Tryz.t511 Tryz.t511:=⟨ah,ah⟩
def RZ:TP 512 Tryz.t512 Tryz.t512:=⟨ah,ah⟩
def RY:TP 513 Tryz.t512 Tryz.t513:=⟨ah,ah⟩
def RX:TP 514 Tryz.t514 Tryz.t514:=⟨ah,ah⟩
def RW:TP 515 Tryz.t515 Tryz.t515:=⟨ah,ah⟩
def RV:TP 516 Tryz.t516 Tryz.t516:=⟨ah,ah⟩
def RU:TP 517 Tryz.t517 Tryz.t517:=⟨ah,ah⟩
def RT:TP 518 Tryz.t518 Tryz.t518:=⟨ah,ah⟩
def RS:TP 519 Tryz.t519 Tryz.t519:=⟨ah,ah⟩
def RR:TP 520 Tryz.t519 Tryz.t520:=⟨ah,ah⟩
def RQ:TP 521 Tryz.t521 Tryz.t521:=⟨ah,ah⟩
def RP:TP 522 Tryz.t522 Tryz.t522:=⟨ah,ah⟩
def RO:TP 523 Tryz.t522 Tryz.t523:=⟨ah,ah⟩
def RN:TP 524 Tryz.t524 Tryz.t524:=⟨ah,ah⟩
def RM:TP 525 Tryz.t525 Tryz.t525:=⟨ah,ah⟩
def RL:TP 526 Tryz.t526 Tryz.t526:=⟨ah,ah⟩
def RK:TP 528 Tryz.t528 Tryz.t528:=⟨ah,ah⟩
def RJ:TP 529 Tryz.t529 Tryz.t529:=⟨ah,ah⟩
def RI:TP 531 Tryz.t531 Tryz.t531:=⟨ah,ah⟩
def RH:TP 532 Tryz.t532 Tryz.t532:=⟨ah,ah⟩
def RG:TP 533 Tryz.t533 Tryz.t533:=⟨ah,ah⟩
def RF:TP 534 Tryz.t534 Tryz.t534:=⟨ah,ah⟩
def RE:TP 535 Tryz.t535 Tryz.t535:=⟨ah,ah⟩
def RD:TP 536 Tryz.t536 Tryz.t536:=⟨ah,ah⟩
def RC:TP 537 Tryz.t537 Tryz.t537:=⟨ah,ah⟩
def RB:TP 538 Tryz.t538 Tryz.t538:=⟨ah,ah⟩
def RA:TP 539 Tryz.t539 Tryz.t539:=⟨ah,ah⟩
def Rz:TP 540 Tryz.t540 Tryz.t540:=⟨ah,ah⟩
def Ry:TP 541 Tryz.t541 Tryz.t541:=⟨ah,ah⟩
def Rx:TP 542 Tryz.t542 Tryz.t542:=⟨ah,ah⟩
def Rw:TP 543 Tryz.t543 Tryz.t543:=⟨ah,ah⟩
def Rv:TP 544 Tryz.t544 Tryz.t544:=⟨ah,ah⟩
def Ru:TP 545 Tryz.t544 Tryz.t545:=⟨ah,ah⟩
def Rs:TP 546 Tryz.t546 Tryz.t546:=⟨ah,ah⟩
def Rr:TP 547 Tryz.t547 Tryz.t547:=⟨ah,ah⟩
def Rq:TP 548 Tryz.t547 Tryz.t548:=⟨ah,ah⟩
def Rp:TP 549 Tryz.t5 Tryz.t549:=⟨ah,ah⟩
def Ro:TP 550 Tryz.t5 Tryz.t550:=⟨ah,ah⟩
def Rn:TP 551 Tryz.t551 Tryz.t551:=⟨ah,ah⟩
def Rm:TP 552 Tryz.t552 Tryz.t552:=⟨ah,ah⟩
def Rl:TP 553 Tryz.t21 Tryz.t553:=⟨ah,ah⟩
def Rk:TP 554 Tryz.t21 Tryz.t554:=⟨ah,ah⟩
def Rj:TP 555 Tryz.t555 Tryz.t555:=⟨ah,ah⟩
def Ri:TP 556 Tryz.t555 Tryz.t556:=⟨ah,ah⟩
def Rh:TP 557 Tryz.t557 Tryz.t557:=⟨ah,ah⟩
noncomputable def aU:Tr:=(.node 284 ⟨Tryz.t283.desc,Tryz.t284⟩ (.node 147 ⟨Tryz.t147.desc,Tryz.t147⟩ (.node 70 ⟨Tryz.t70.desc,Tryz.t70⟩ (.node 35 ⟨Tryz.t35.desc,Tryz.t35⟩ (.node 16 ⟨Tryz.t16.desc,Tryz.t16⟩ (.node 8 ⟨Tryz.t7.desc,Tryz.t8⟩ (.node 4 ⟨Tryz.t4.desc,Tryz.t4⟩ (.node 2 ⟨Tryz.t2.desc,Tryz.t2⟩ (.node 1 ⟨Tryz.t1.desc,Tryz.t1⟩ .leaf .leaf) (.node 3 ⟨Tryz.t3.desc,Tryz.t3⟩ .leaf .leaf)) (.node 6 ⟨Tryz.t5.desc,Tryz.t6⟩ (.node 5 ⟨Tryz.t5.desc,Tryz.t5⟩ .leaf .leaf) (.node 7 ⟨Tryz.t7.desc,Tryz.t7⟩ .leaf .leaf))) (.node 12 ⟨Tryz.t12.desc,Tryz.t12⟩ (.node 10 ⟨Tryz.t9.desc,Tryz.t10⟩ (.node 9 ⟨Tryz.t9.desc,Tryz.t9⟩ .leaf .leaf) (.node 11 ⟨Tryz.t9.desc,Tryz.t11⟩ .leaf .leaf)) (.node 14 ⟨Tryz.t13.desc,Tryz.t14⟩ (.node 13 ⟨Tryz.t13.desc,Tryz.t13⟩ .leaf .leaf) (.node 15 ⟨Tryz.t15.desc,Tryz.t15⟩ .leaf .leaf)))) (.node 24 ⟨Tryz.t24.desc,Tryz.t24⟩ (.node 20 ⟨Tryz.t20.desc,Tryz.t20⟩ (.node 18 ⟨Tryz.t18.desc,Tryz.t18⟩ (.node 17 ⟨Tryz.t17.desc,Tryz.t17⟩ .leaf .leaf) (.node 19 ⟨Tryz.t18.desc,Tryz.t19⟩ .leaf .leaf)) (.node 22 ⟨Tryz.t22.desc,Tryz.t22⟩ (.node 21 ⟨Tryz.t21.desc,Tryz.t21⟩ .leaf .leaf) (.node 23 ⟨Tryz.t23.desc,Tryz.t23⟩ .leaf .leaf))) (.node 30 ⟨Tryz.t30.desc,Tryz.t30⟩ (.node 27 ⟨Tryz.t27.desc,Tryz.t27⟩ (.node 25 ⟨Tryz.t3.desc,Tryz.t25⟩ .leaf .leaf) (.node 28 ⟨Tryz.t28.desc,Tryz.t28⟩ .leaf .leaf)) (.node 32 ⟨Tryz.t31.desc,Tryz.t32⟩ (.node 31 ⟨Tryz.t31.desc,Tryz.t31⟩ .leaf .leaf) (.node 34 ⟨Tryz.t34.desc,Tryz.t34⟩ .leaf .leaf))))) (.node 54 ⟨Tryz.t54.desc,Tryz.t54⟩ (.node 45 ⟨Tryz.t45.desc,Tryz.t45⟩ (.node 39 ⟨Tryz.t39.desc,Tryz.t39⟩ (.node 37 ⟨Tryz.t36.desc,Tryz.t37⟩ (.node 36 ⟨Tryz.t36.desc,Tryz.t36⟩ .leaf .leaf) (.node 38 ⟨Tryz.t38.desc,Tryz.t38⟩ .leaf .leaf)) (.node 42 ⟨Tryz.t42.desc,Tryz.t42⟩ (.node 41 ⟨Tryz.t41.desc,Tryz.t41⟩ .leaf .leaf) (.node 43 ⟨Tryz.t43.desc,Tryz.t43⟩ .leaf .leaf))) (.node 50 ⟨Tryz.t50.desc,Tryz.t50⟩ (.node 47 ⟨Tryz.t47.desc,Tryz.t47⟩ (.node 46 ⟨Tryz.t46.desc,Tryz.t46⟩ .leaf .leaf) (.node 49 ⟨Tryz.t49.desc,Tryz.t49⟩ .leaf .leaf)) (.node 52 ⟨Tryz.t52.desc,Tryz.t52⟩ (.node 51 ⟨Tryz.t51.desc,Tryz.t51⟩ .leaf .leaf) (.node 53 ⟨Tryz.t53.desc,Tryz.t53⟩ .leaf .leaf)))) (.node 63 ⟨Tryz.t63.desc,Tryz.t63⟩ (.node 58 ⟨Tryz.t57.desc,Tryz.t58⟩ (.node 56 ⟨Tryz.t55.desc,Tryz.t56⟩ (.node 55 ⟨Tryz.t55.desc,Tryz.t55⟩ .leaf .leaf) (.node 57 ⟨Tryz.t57.desc,Tryz.t57⟩ .leaf .leaf)) (.node 61 ⟨Tryz.t61.desc,Tryz.t61⟩ (.node 59 ⟨Tryz.t59.desc,Tryz.t59⟩ .leaf .leaf) (.node 62 ⟨Tryz.t62.desc,Tryz.t62⟩ .leaf .leaf))) (.node 67 ⟨Tryz.t67.desc,Tryz.t67⟩ (.node 65 ⟨Tryz.t65.desc,Tryz.t65⟩ (.node 64 ⟨Tryz.t64.desc,Tryz.t64⟩ .leaf .leaf) (.node 66 ⟨Tryz.t65.desc,Tryz.t66⟩ .leaf .leaf)) (.node 69 ⟨Tryz.t69.desc,Tryz.t69⟩ (.node 68 ⟨Tryz.t67.desc,Tryz.t68⟩ .leaf .leaf) .leaf))))) (.node 109 ⟨Tryz.t109.desc,Tryz.t109⟩ (.node 88 ⟨Tryz.t88.desc,Tryz.t88⟩ (.node 79 ⟨Tryz.t79.desc,Tryz.t79⟩ (.node 74 ⟨Tryz.t74.desc,Tryz.t74⟩ (.node 72 ⟨Tryz.t71.desc,Tryz.t72⟩ (.node 71 ⟨Tryz.t71.desc,Tryz.t71⟩ .leaf .leaf) (.node 73 ⟨Tryz.t73.desc,Tryz.t73⟩ .leaf .leaf)) (.node 76 ⟨Tryz.t76.desc,Tryz.t76⟩ (.node 75 ⟨Tryz.t74.desc,Tryz.t75⟩ .leaf .leaf) (.node 77 ⟨Tryz.t76.desc,Tryz.t77⟩ .leaf .leaf))) (.node 84 ⟨Tryz.t84.desc,Tryz.t84⟩ (.node 81 ⟨Tryz.t80.desc,Tryz.t81⟩ (.node 80 ⟨Tryz.t80.desc,Tryz.t80⟩ .leaf .leaf) (.node 82 ⟨Tryz.t82.desc,Tryz.t82⟩ .leaf .leaf)) (.node 86 ⟨Tryz.t85.desc,Tryz.t86⟩ (.node 85 ⟨Tryz.t85.desc,Tryz.t85⟩ .leaf .leaf) (.node 87 ⟨Tryz.t87.desc,Tryz.t87⟩ .leaf .leaf)))) (.node 96 ⟨Tryz.t96.desc,Tryz.t96⟩ (.node 92 ⟨Tryz.t92.desc,Tryz.t92⟩ (.node 90 ⟨Tryz.t90.desc,Tryz.t90⟩ (.node 89 ⟨Tryz.t89.desc,Tryz.t89⟩ .leaf .leaf) (.node 91 ⟨Tryz.t91.desc,Tryz.t91⟩ .leaf .leaf)) (.node 94 ⟨Tryz.t94.desc,Tryz.t94⟩ (.node 93 ⟨Tryz.t93.desc,Tryz.t93⟩ .leaf .leaf) (.node 95 ⟨Tryz.t95.desc,Tryz.t95⟩ .leaf .leaf))) (.node 101 ⟨Tryz.t101.desc,Tryz.t101⟩ (.node 98 ⟨Tryz.t97.desc,Tryz.t98⟩ (.node 97 ⟨Tryz.t97.desc,Tryz.t97⟩ .leaf .leaf) (.node 100 ⟨Tryz.t100.desc,Tryz.t100⟩ .leaf .leaf)) (.node 105 ⟨Tryz.t105.desc,Tryz.t105⟩ (.node 103 ⟨Tryz.t103.desc,Tryz.t103⟩ .leaf .leaf) (.node 107 ⟨Tryz.t107.desc,Tryz.t107⟩ .leaf .leaf))))) (.node 129 ⟨Tryz.t129.desc,Tryz.t129⟩ (.node 118 ⟨Tryz.t118.desc,Tryz.t118⟩ (.node 114 ⟨Tryz.t114.desc,Tryz.t114⟩ (.node 112 ⟨Tryz.t112.desc,Tryz.t112⟩ (.node 110 ⟨Tryz.t110.desc,Tryz.t110⟩ .leaf .leaf) (.node 113 ⟨Tryz.t113.desc,Tryz.t113⟩ .leaf .leaf)) (.node 116 ⟨Tryz.t116.desc,Tryz.t116⟩ (.node 115 ⟨Tryz.t115.desc,Tryz.t115⟩ .leaf .leaf) (.node 117 ⟨Tryz.t116.desc,Tryz.t117⟩ .leaf .leaf))) (.node 123 ⟨Tryz.t123.desc,Tryz.t123⟩ (.node 121 ⟨Tryz.t121.desc,Tryz.t121⟩ (.node 119 ⟨Tryz.t119.desc,Tryz.t119⟩ .leaf .leaf) (.node 122 ⟨Tryz.t122.desc,Tryz.t122⟩ .leaf .leaf)) (.node 126 ⟨Tryz.t126.desc,Tryz.t126⟩ (.node 125 ⟨Tryz.t125.desc,Tryz.t125⟩ .leaf .leaf) (.node 128 ⟨Tryz.t128.desc,Tryz.t128⟩ .leaf .leaf)))) (.node 139 ⟨Tryz.t139.desc,Tryz.t139⟩ (.node 134 ⟨Tryz.t134.desc,Tryz.t134⟩ (.node 131 ⟨Tryz.t130.desc,Tryz.t131⟩ (.node 130 ⟨Tryz.t130.desc,Tryz.t130⟩ .leaf .leaf) (.node 133 ⟨Tryz.t133.desc,Tryz.t133⟩ .leaf .leaf)) (.node 136 ⟨Tryz.t136.desc,Tryz.t136⟩ (.node 135 ⟨Tryz.t135.desc,Tryz.t135⟩ .leaf .leaf) (.node 137 ⟨Tryz.t136.desc,Tryz.t137⟩ .leaf .leaf))) (.node 144 ⟨Tryz.t144.desc,Tryz.t144⟩ (.node 141 ⟨Tryz.t141.desc,Tryz.t141⟩ (.node 140 ⟨Tryz.t140.desc,Tryz.t140⟩ .leaf .leaf) (.node 143 ⟨Tryz.t143.desc,Tryz.t143⟩ .leaf .leaf)) (.node 146 ⟨Tryz.t145.desc,Tryz.t146⟩ (.node 145 ⟨Tryz.t145.desc,Tryz.t145⟩ .leaf .leaf) .leaf)))))) (.node 213 ⟨Tryz.t213.desc,Tryz.t213⟩ (.node 180 ⟨Tryz.t179.desc,Tryz.t180⟩ (.node 164 ⟨Tryz.t164.desc,Tryz.t164⟩ (.node 156 ⟨Tryz.t155.desc,Tryz.t156⟩ (.node 151 ⟨Tryz.t151.desc,Tryz.t151⟩ (.node 149 ⟨Tryz.t149.desc,Tryz.t149⟩ (.node 148 ⟨Tryz.t148.desc,Tryz.t148⟩ .leaf .leaf) (.node 150 ⟨Tryz.t150.desc,Tryz.t150⟩ .leaf .leaf)) (.node 154 ⟨Tryz.t154.desc,Tryz.t154⟩ (.node 153 ⟨Tryz.t153.desc,Tryz.t153⟩ .leaf .leaf) (.node 155 ⟨Tryz.t155.desc,Tryz.t155⟩ .leaf .leaf))) (.node 160 ⟨Tryz.t160.desc,Tryz.t160⟩ (.node 158 ⟨Tryz.t158.desc,Tryz.t158⟩ (.node 157 ⟨Tryz.t157.desc,Tryz.t157⟩ .leaf .leaf) (.node 159 ⟨Tryz.t159.desc,Tryz.t159⟩ .leaf .leaf)) (.node 162 ⟨Tryz.t162.desc,Tryz.t162⟩ (.node 161 ⟨Tryz.t161.desc,Tryz.t161⟩ .leaf .leaf) (.node 163 ⟨Tryz.t162.desc,Tryz.t163⟩ .leaf .leaf)))) (.node 172 ⟨Tryz.t172.desc,Tryz.t172⟩ (.node 168 ⟨Tryz.t167.desc,Tryz.t168⟩ (.node 166 ⟨Tryz.t166.desc,Tryz.t166⟩ (.node 165 ⟨Tryz.t165.desc,Tryz.t165⟩ .leaf .leaf) (.node 167 ⟨Tryz.t167.desc,Tryz.t167⟩ .leaf .leaf)) (.node 170 ⟨Tryz.t170.desc,Tryz.t170⟩ (.node 169 ⟨Tryz.t169.desc,Tryz.t169⟩ .leaf .leaf) (.node 171 ⟨Tryz.t170.desc,Tryz.t171⟩ .leaf .leaf))) (.node 176 ⟨Tryz.t176.desc,Tryz.t176⟩ (.node 174 ⟨Tryz.t173.desc,Tryz.t174⟩ (.node 173 ⟨Tryz.t173.desc,Tryz.t173⟩ .leaf .leaf) (.node 175 ⟨Tryz.t175.desc,Tryz.t175⟩ .leaf .leaf)) (.node 178 ⟨Tryz.t178.desc,Tryz.t178⟩ (.node 177 ⟨Tryz.t177.desc,Tryz.t177⟩ .leaf .leaf) (.node 179 ⟨Tryz.t179.desc,Tryz.t179⟩ .leaf .leaf))))) (.node 196 ⟨Tryz.t196.desc,Tryz.t196⟩ (.node 188 ⟨Tryz.t188.desc,Tryz.t188⟩ (.node 184 ⟨Tryz.t184.desc,Tryz.t184⟩ (.node 182 ⟨Tryz.t182.desc,Tryz.t182⟩ (.node 181 ⟨Tryz.t181.desc,Tryz.t181⟩ .leaf .leaf) (.node 183 ⟨Tryz.t183.desc,Tryz.t183⟩ .leaf .leaf)) (.node 186 ⟨Tryz.t185.desc,Tryz.t186⟩ (.node 185 ⟨Tryz.t185.desc,Tryz.t185⟩ .leaf .leaf) (.node 187 ⟨Tryz.t187.desc,Tryz.t187⟩ .leaf .leaf))) (.node 192 ⟨Tryz.t192.desc,Tryz.t192⟩ (.node 190 ⟨Tryz.t190.desc,Tryz.t190⟩ (.node 189 ⟨Tryz.t188.desc,Tryz.t189⟩ .leaf .leaf) (.node 191 ⟨Tryz.t190.desc,Tryz.t191⟩ .leaf .leaf)) (.node 194 ⟨Tryz.t194.desc,Tryz.t194⟩ (.node 193 ⟨Tryz.t193.desc,Tryz.t193⟩ .leaf .leaf) (.node 195 ⟨Tryz.t195.desc,Tryz.t195⟩ .leaf .leaf)))) (.node 204 ⟨Tryz.t204.desc,Tryz.t204⟩ (.node 200 ⟨Tryz.t200.desc,Tryz.t200⟩ (.node 198 ⟨Tryz.t198.desc,Tryz.t198⟩ (.node 197 ⟨Tryz.t197.desc,Tryz.t197⟩ .leaf .leaf) (.node 199 ⟨Tryz.t199.desc,Tryz.t199⟩ .leaf .leaf)) (.node 202 ⟨Tryz.t202.desc,Tryz.t202⟩ (.node 201 ⟨Tryz.t201.desc,Tryz.t201⟩ .leaf .leaf) (.node 203 ⟨Tryz.t203.desc,Tryz.t203⟩ .leaf .leaf))) (.node 209 ⟨Tryz.t209.desc,Tryz.t209⟩ (.node 206 ⟨Tryz.t206.desc,Tryz.t206⟩ (.node 205 ⟨Tryz.t205.desc,Tryz.t205⟩ .leaf .leaf) (.node 208 ⟨Tryz.t208.desc,Tryz.t208⟩ .leaf .leaf)) (.node 211 ⟨Tryz.t211.desc,Tryz.t211⟩ (.node 210 ⟨Tryz.t210.desc,Tryz.t210⟩ .leaf .leaf) .leaf))))) (.node 246 ⟨Tryz.t245.desc,Tryz.t246⟩ (.node 230 ⟨Tryz.t230.desc,Tryz.t230⟩ (.node 222 ⟨Tryz.t222.desc,Tryz.t222⟩ (.node 218 ⟨Tryz.t218.desc,Tryz.t218⟩ (.node 215 ⟨Tryz.t215.desc,Tryz.t215⟩ (.node 214 ⟨Tryz.t213.desc,Tryz.t214⟩ .leaf .leaf) (.node 216 ⟨Tryz.t216.desc,Tryz.t216⟩ .leaf .leaf)) (.node 220 ⟨Tryz.t220.desc,Tryz.t220⟩ (.node 219 ⟨Tryz.t219.desc,Tryz.t219⟩ .leaf .leaf) (.node 221 ⟨Tryz.t221.desc,Tryz.t221⟩ .leaf .leaf))) (.node 226 ⟨Tryz.t226.desc,Tryz.t226⟩ (.node 224 ⟨Tryz.t224.desc,Tryz.t224⟩ (.node 223 ⟨Tryz.t223.desc,Tryz.t223⟩ .leaf .leaf) (.node 225 ⟨Tryz.t225.desc,Tryz.t225⟩ .leaf .leaf)) (.node 228 ⟨Tryz.t228.desc,Tryz.t228⟩ (.node 227 ⟨Tryz.t227.desc,Tryz.t227⟩ .leaf .leaf) (.node 229 ⟨Tryz.t228.desc,Tryz.t229⟩ .leaf .leaf)))) (.node 239 ⟨Tryz.t239.desc,Tryz.t239⟩ (.node 234 ⟨Tryz.t234.desc,Tryz.t234⟩ (.node 232 ⟨Tryz.t232.desc,Tryz.t232⟩ (.node 231 ⟨Tryz.t231.desc,Tryz.t231⟩ .leaf .leaf) (.node 233 ⟨Tryz.t232.desc,Tryz.t233⟩ .leaf .leaf)) (.node 236 ⟨Tryz.t236.desc,Tryz.t236⟩ (.node 235 ⟨Tryz.t235.desc,Tryz.t235⟩ .leaf .leaf) (.node 237 ⟨Tryz.t237.desc,Tryz.t237⟩ .leaf .leaf))) (.node 243 ⟨Tryz.t243.desc,Tryz.t243⟩ (.node 241 ⟨Tryz.t241.desc,Tryz.t241⟩ (.node 240 ⟨Tryz.t240.desc,Tryz.t240⟩ .leaf .leaf) (.node 242 ⟨Tryz.t242.desc,Tryz.t242⟩ .leaf .leaf)) (.node 245 ⟨Tryz.t245.desc,Tryz.t245⟩ (.node 244 ⟨Tryz.t244.desc,Tryz.t244⟩ .leaf .leaf) .leaf)))) (.node 264 ⟨Tryz.t264.desc,Tryz.t264⟩ (.node 255 ⟨Tryz.t255.desc,Tryz.t255⟩ (.node 250 ⟨Tryz.t249.desc,Tryz.t250⟩ (.node 248 ⟨Tryz.t248.desc,Tryz.t248⟩ (.node 247 ⟨Tryz.t247.desc,Tryz.t247⟩ .leaf .leaf) (.node 249 ⟨Tryz.t249.desc,Tryz.t249⟩ .leaf .leaf)) (.node 253 ⟨Tryz.t253.desc,Tryz.t253⟩ (.node 252 ⟨Tryz.t252.desc,Tryz.t252⟩ .leaf .leaf) (.node 254 ⟨Tryz.t254.desc,Tryz.t254⟩ .leaf .leaf))) (.node 260 ⟨Tryz.t260.desc,Tryz.t260⟩ (.node 257 ⟨Tryz.t257.desc,Tryz.t257⟩ (.node 256 ⟨Tryz.t256.desc,Tryz.t256⟩ .leaf .leaf) (.node 259 ⟨Tryz.t259.desc,Tryz.t259⟩ .leaf .leaf)) (.node 262 ⟨Tryz.t262.desc,Tryz.t262⟩ (.node 261 ⟨Tryz.t261.desc,Tryz.t261⟩ .leaf .leaf) (.node 263 ⟨Tryz.t263.desc,Tryz.t263⟩ .leaf .leaf)))) (.node 275 ⟨Tryz.t275.desc,Tryz.t275⟩ (.node 270 ⟨Tryz.t270.desc,Tryz.t270⟩ (.node 267 ⟨Tryz.t267.desc,Tryz.t267⟩ (.node 265 ⟨Tryz.t265.desc,Tryz.t265⟩ .leaf .leaf) (.node 268 ⟨Tryz.t268.desc,Tryz.t268⟩ .leaf .leaf)) (.node 272 ⟨Tryz.t271.desc,Tryz.t272⟩ (.node 271 ⟨Tryz.t271.desc,Tryz.t271⟩ .leaf .leaf) (.node 274 ⟨Tryz.t274.desc,Tryz.t274⟩ .leaf .leaf))) (.node 280 ⟨Tryz.t280.desc,Tryz.t280⟩ (.node 278 ⟨Tryz.t278.desc,Tryz.t278⟩ (.node 276 ⟨Tryz.t276.desc,Tryz.t276⟩ .leaf .leaf) (.node 279 ⟨Tryz.t279.desc,Tryz.t279⟩ .leaf .leaf)) (.node 283 ⟨Tryz.t283.desc,Tryz.t283⟩ (.node 282 ⟨Tryz.t282.desc,Tryz.t282⟩ .leaf .leaf) .leaf))))))) (.node 427 ⟨Tryz.t427.desc,Tryz.t427⟩ (.node 358 ⟨Tryz.t358.desc,Tryz.t358⟩ (.node 320 ⟨Tryz.t320.desc,Tryz.t320⟩ (.node 304 ⟨Tryz.t304.desc,Tryz.t304⟩ (.node 293 ⟨Tryz.t292.desc,Tryz.t293⟩ (.node 289 ⟨Tryz.t289.desc,Tryz.t289⟩ (.node 287 ⟨Tryz.t287.desc,Tryz.t287⟩ (.node 286 ⟨Tryz.t286.desc,Tryz.t286⟩ .leaf .leaf) (.node 288 ⟨Tryz.t288.desc,Tryz.t288⟩ .leaf .leaf)) (.node 291 ⟨Tryz.t291.desc,Tryz.t291⟩ (.node 290 ⟨Tryz.t290.desc,Tryz.t290⟩ .leaf .leaf) (.node 292 ⟨Tryz.t292.desc,Tryz.t292⟩ .leaf .leaf))) (.node 299 ⟨Tryz.t299.desc,Tryz.t299⟩ (.node 296 ⟨Tryz.t296.desc,Tryz.t296⟩ (.node 295 ⟨Tryz.t295.desc,Tryz.t295⟩ .leaf .leaf) (.node 297 ⟨Tryz.t297.desc,Tryz.t297⟩ .leaf .leaf)) (.node 302 ⟨Tryz.t302.desc,Tryz.t302⟩ (.node 301 ⟨Tryz.t301.desc,Tryz.t301⟩ .leaf .leaf) (.node 303 ⟨Tryz.t303.desc,Tryz.t303⟩ .leaf .leaf)))) (.node 312 ⟨Tryz.t312.desc,Tryz.t312⟩ (.node 308 ⟨Tryz.t308.desc,Tryz.t308⟩ (.node 306 ⟨Tryz.t305.desc,Tryz.t306⟩ (.node 305 ⟨Tryz.t305.desc,Tryz.t305⟩ .leaf .leaf) (.node 307 ⟨Tryz.t307.desc,Tryz.t307⟩ .leaf .leaf)) (.node 310 ⟨Tryz.t310.desc,Tryz.t310⟩ (.node 309 ⟨Tryz.t308.desc,Tryz.t309⟩ .leaf .leaf) (.node 311 ⟨Tryz.t311.desc,Tryz.t311⟩ .leaf .leaf))) (.node 316 ⟨Tryz.t316.desc,Tryz.t316⟩ (.node 314 ⟨Tryz.t314.desc,Tryz.t314⟩ (.node 313 ⟨Tryz.t313.desc,Tryz.t313⟩ .leaf .leaf) (.node 315 ⟨Tryz.t314.desc,Tryz.t315⟩ .leaf .leaf)) (.node 318 ⟨Tryz.t318.desc,Tryz.t318⟩ (.node 317 ⟨Tryz.t317.desc,Tryz.t317⟩ .leaf .leaf) (.node 319 ⟨Tryz.t319.desc,Tryz.t319⟩ .leaf .leaf))))) (.node 340 ⟨Tryz.t340.desc,Tryz.t340⟩ (.node 331 ⟨Tryz.t331.desc,Tryz.t331⟩ (.node 326 ⟨Tryz.t326.desc,Tryz.t326⟩ (.node 322 ⟨Tryz.t322.desc,Tryz.t322⟩ (.node 321 ⟨Tryz.t321.desc,Tryz.t321⟩ .leaf .leaf) (.node 324 ⟨Tryz.t324.desc,Tryz.t324⟩ .leaf .leaf)) (.node 329 ⟨Tryz.t329.desc,Tryz.t329⟩ (.node 327 ⟨Tryz.t327.desc,Tryz.t327⟩ .leaf .leaf) (.node 330 ⟨Tryz.t330.desc,Tryz.t330⟩ .leaf .leaf))) (.node 336 ⟨Tryz.t336.desc,Tryz.t336⟩ (.node 334 ⟨Tryz.t334.desc,Tryz.t334⟩ (.node 332 ⟨Tryz.t332.desc,Tryz.t332⟩ .leaf .leaf) (.node 335 ⟨Tryz.t335.desc,Tryz.t335⟩ .leaf .leaf)) (.node 338 ⟨Tryz.t338.desc,Tryz.t338⟩ (.node 337 ⟨Tryz.t337.desc,Tryz.t337⟩ .leaf .leaf) (.node 339 ⟨Tryz.t339.desc,Tryz.t339⟩ .leaf .leaf)))) (.node 349 ⟨Tryz.t349.desc,Tryz.t349⟩ (.node 344 ⟨Tryz.t344.desc,Tryz.t344⟩ (.node 342 ⟨Tryz.t342.desc,Tryz.t342⟩ (.node 341 ⟨Tryz.t341.desc,Tryz.t341⟩ .leaf .leaf) (.node 343 ⟨Tryz.t343.desc,Tryz.t343⟩ .leaf .leaf)) (.node 347 ⟨Tryz.t347.desc,Tryz.t347⟩ (.node 346 ⟨Tryz.t346.desc,Tryz.t346⟩ .leaf .leaf) (.node 348 ⟨Tryz.t348.desc,Tryz.t348⟩ .leaf .leaf))) (.node 354 ⟨Tryz.t354.desc,Tryz.t354⟩ (.node 351 ⟨Tryz.t222.desc,Tryz.t351⟩ (.node 350 ⟨Tryz.t350.desc,Tryz.t350⟩ .leaf .leaf) (.node 352 ⟨Tryz.t352.desc,Tryz.t352⟩ .leaf .leaf)) (.node 356 ⟨Tryz.t356.desc,Tryz.t356⟩ (.node 355 ⟨Tryz.t354.desc,Tryz.t355⟩ .leaf .leaf) .leaf))))) (.node 392 ⟨Tryz.t392.desc,Tryz.t392⟩ (.node 376 ⟨Tryz.t375.desc,Tryz.t376⟩ (.node 367 ⟨Tryz.t367.desc,Tryz.t367⟩ (.node 362 ⟨Tryz.t362.desc,Tryz.t362⟩ (.node 360 ⟨Tryz.t360.desc,Tryz.t360⟩ (.node 359 ⟨Tryz.t359.desc,Tryz.t359⟩ .leaf .leaf) (.node 361 ⟨Tryz.t361.desc,Tryz.t361⟩ .leaf .leaf)) (.node 365 ⟨Tryz.t365.desc,Tryz.t365⟩ (.node 363 ⟨Tryz.t363.desc,Tryz.t363⟩ .leaf .leaf) (.node 366 ⟨Tryz.t366.desc,Tryz.t366⟩ .leaf .leaf))) (.node 372 ⟨Tryz.t372.desc,Tryz.t372⟩ (.node 370 ⟨Tryz.t370.desc,Tryz.t370⟩ (.node 369 ⟨Tryz.t369.desc,Tryz.t369⟩ .leaf .leaf) (.node 371 ⟨Tryz.t371.desc,Tryz.t371⟩ .leaf .leaf)) (.node 374 ⟨Tryz.t374.desc,Tryz.t374⟩ (.node 373 ⟨Tryz.t373.desc,Tryz.t373⟩ .leaf .leaf) (.node 375 ⟨Tryz.t375.desc,Tryz.t375⟩ .leaf .leaf)))) (.node 384 ⟨Tryz.t383.desc,Tryz.t384⟩ (.node 380 ⟨Tryz.t380.desc,Tryz.t380⟩ (.node 378 ⟨Tryz.t378.desc,Tryz.t378⟩ (.node 377 ⟨Tryz.t377.desc,Tryz.t377⟩ .leaf .leaf) (.node 379 ⟨Tryz.t379.desc,Tryz.t379⟩ .leaf .leaf)) (.node 382 ⟨Tryz.t382.desc,Tryz.t382⟩ (.node 381 ⟨Tryz.t380.desc,Tryz.t381⟩ .leaf .leaf) (.node 383 ⟨Tryz.t383.desc,Tryz.t383⟩ .leaf .leaf))) (.node 388 ⟨Tryz.t388.desc,Tryz.t388⟩ (.node 386 ⟨Tryz.t386.desc,Tryz.t386⟩ (.node 385 ⟨Tryz.t385.desc,Tryz.t385⟩ .leaf .leaf) (.node 387 ⟨Tryz.t387.desc,Tryz.t387⟩ .leaf .leaf)) (.node 390 ⟨Tryz.t390.desc,Tryz.t390⟩ (.node 389 ⟨Tryz.t389.desc,Tryz.t389⟩ .leaf .leaf) (.node 391 ⟨Tryz.t391.desc,Tryz.t391⟩ .leaf .leaf))))) (.node 409 ⟨Tryz.t409.desc,Tryz.t409⟩ (.node 401 ⟨Tryz.t401.desc,Tryz.t401⟩ (.node 396 ⟨Tryz.t396.desc,Tryz.t396⟩ (.node 394 ⟨Tryz.t394.desc,Tryz.t394⟩ (.node 393 ⟨Tryz.t393.desc,Tryz.t393⟩ .leaf .leaf) (.node 395 ⟨Tryz.t395.desc,Tryz.t395⟩ .leaf .leaf)) (.node 398 ⟨Tryz.t398.desc,Tryz.t398⟩ (.node 397 ⟨Tryz.t397.desc,Tryz.t397⟩ .leaf .leaf) (.node 400 ⟨Tryz.t400.desc,Tryz.t400⟩ .leaf .leaf))) (.node 405 ⟨Tryz.t405.desc,Tryz.t405⟩ (.node 403 ⟨Tryz.t403.desc,Tryz.t403⟩ (.node 402 ⟨Tryz.t402.desc,Tryz.t402⟩ .leaf .leaf) (.node 404 ⟨Tryz.t404.desc,Tryz.t404⟩ .leaf .leaf)) (.node 407 ⟨Tryz.t407.desc,Tryz.t407⟩ (.node 406 ⟨Tryz.t406.desc,Tryz.t406⟩ .leaf .leaf) (.node 408 ⟨Tryz.t408.desc,Tryz.t408⟩ .leaf .leaf)))) (.node 417 ⟨Tryz.t417.desc,Tryz.t417⟩ (.node 413 ⟨Tryz.t413.desc,Tryz.t413⟩ (.node 411 ⟨Tryz.t411.desc,Tryz.t411⟩ (.node 410 ⟨Tryz.t409.desc,Tryz.t410⟩ .leaf .leaf) (.node 412 ⟨Tryz.t412.desc,Tryz.t412⟩ .leaf .leaf)) (.node 415 ⟨Tryz.t415.desc,Tryz.t415⟩ (.node 414 ⟨Tryz.t414.desc,Tryz.t414⟩ .leaf .leaf) (.node 416 ⟨Tryz.t416.desc,Tryz.t416⟩ .leaf .leaf))) (.node 422 ⟨Tryz.t422.desc,Tryz.t422⟩ (.node 420 ⟨Tryz.t420.desc,Tryz.t420⟩ (.node 418 ⟨Tryz.t418.desc,Tryz.t418⟩ .leaf .leaf) (.node 421 ⟨Tryz.t421.desc,Tryz.t421⟩ .leaf .leaf)) (.node 426 ⟨Tryz.t426.desc,Tryz.t426⟩ (.node 424 ⟨Tryz.t424.desc,Tryz.t424⟩ .leaf .leaf) .leaf)))))) (.node 494 ⟨Tryz.t494.desc,Tryz.t494⟩ (.node 461 ⟨Tryz.t461.desc,Tryz.t461⟩ (.node 444 ⟨Tryz.t443.desc,Tryz.t444⟩ (.node 435 ⟨Tryz.t435.desc,Tryz.t435⟩ (.node 431 ⟨Tryz.t431.desc,Tryz.t431⟩ (.node 429 ⟨Tryz.t429.desc,Tryz.t429⟩ (.node 428 ⟨Tryz.t428.desc,Tryz.t428⟩ .leaf .leaf) (.node 430 ⟨Tryz.t430.desc,Tryz.t430⟩ .leaf .leaf)) (.node 433 ⟨Tryz.t433.desc,Tryz.t433⟩ (.node 432 ⟨Tryz.t432.desc,Tryz.t432⟩ .leaf .leaf) (.node 434 ⟨Tryz.t434.desc,Tryz.t434⟩ .leaf .leaf))) (.node 439 ⟨Tryz.t439.desc,Tryz.t439⟩ (.node 437 ⟨Tryz.t437.desc,Tryz.t437⟩ (.node 436 ⟨Tryz.t436.desc,Tryz.t436⟩ .leaf .leaf) (.node 438 ⟨Tryz.t437.desc,Tryz.t438⟩ .leaf .leaf)) (.node 442 ⟨Tryz.t442.desc,Tryz.t442⟩ (.node 440 ⟨Tryz.t440.desc,Tryz.t440⟩ .leaf .leaf) (.node 443 ⟨Tryz.t443.desc,Tryz.t443⟩ .leaf .leaf)))) (.node 453 ⟨Tryz.t453.desc,Tryz.t453⟩ (.node 448 ⟨Tryz.t3.desc,Tryz.t448⟩ (.node 446 ⟨Tryz.t446.desc,Tryz.t446⟩ (.node 445 ⟨Tryz.t445.desc,Tryz.t445⟩ .leaf .leaf) (.node 447 ⟨Tryz.t447.desc,Tryz.t447⟩ .leaf .leaf)) (.node 451 ⟨Tryz.t451.desc,Tryz.t451⟩ (.node 450 ⟨Tryz.t450.desc,Tryz.t450⟩ .leaf .leaf) (.node 452 ⟨Tryz.t452.desc,Tryz.t452⟩ .leaf .leaf))) (.node 457 ⟨Tryz.t457.desc,Tryz.t457⟩ (.node 455 ⟨Tryz.t455.desc,Tryz.t455⟩ (.node 454 ⟨Tryz.t454.desc,Tryz.t454⟩ .leaf .leaf) (.node 456 ⟨Tryz.t456.desc,Tryz.t456⟩ .leaf .leaf)) (.node 459 ⟨Tryz.t459.desc,Tryz.t459⟩ (.node 458 ⟨Tryz.t458.desc,Tryz.t458⟩ .leaf .leaf) (.node 460 ⟨Tryz.t460.desc,Tryz.t460⟩ .leaf .leaf))))) (.node 477 ⟨Tryz.t477.desc,Tryz.t477⟩ (.node 469 ⟨Tryz.t469.desc,Tryz.t469⟩ (.node 465 ⟨Tryz.t465.desc,Tryz.t465⟩ (.node 463 ⟨Tryz.t463.desc,Tryz.t463⟩ (.node 462 ⟨Tryz.t462.desc,Tryz.t462⟩ .leaf .leaf) (.node 464 ⟨Tryz.t464.desc,Tryz.t464⟩ .leaf .leaf)) (.node 467 ⟨Tryz.t467.desc,Tryz.t467⟩ (.node 466 ⟨Tryz.t466.desc,Tryz.t466⟩ .leaf .leaf) (.node 468 ⟨Tryz.t468.desc,Tryz.t468⟩ .leaf .leaf))) (.node 473 ⟨Tryz.t473.desc,Tryz.t473⟩ (.node 471 ⟨Tryz.t471.desc,Tryz.t471⟩ (.node 470 ⟨Tryz.t470.desc,Tryz.t470⟩ .leaf .leaf) (.node 472 ⟨Tryz.t472.desc,Tryz.t472⟩ .leaf .leaf)) (.node 475 ⟨Tryz.t474.desc,Tryz.t475⟩ (.node 474 ⟨Tryz.t474.desc,Tryz.t474⟩ .leaf .leaf) (.node 476 ⟨Tryz.t476.desc,Tryz.t476⟩ .leaf .leaf)))) (.node 486 ⟨Tryz.t486.desc,Tryz.t486⟩ (.node 482 ⟨Tryz.t482.desc,Tryz.t482⟩ (.node 479 ⟨Tryz.t479.desc,Tryz.t479⟩ (.node 478 ⟨Tryz.t478.desc,Tryz.t478⟩ .leaf .leaf) (.node 481 ⟨Tryz.t481.desc,Tryz.t481⟩ .leaf .leaf)) (.node 484 ⟨Tryz.t484.desc,Tryz.t484⟩ (.node 483 ⟨Tryz.t483.desc,Tryz.t483⟩ .leaf .leaf) (.node 485 ⟨Tryz.t485.desc,Tryz.t485⟩ .leaf .leaf))) (.node 490 ⟨Tryz.t490.desc,Tryz.t490⟩ (.node 488 ⟨Tryz.t488.desc,Tryz.t488⟩ (.node 487 ⟨Tryz.t487.desc,Tryz.t487⟩ .leaf .leaf) (.node 489 ⟨Tryz.t489.desc,Tryz.t489⟩ .leaf .leaf)) (.node 493 ⟨Tryz.t493.desc,Tryz.t493⟩ (.node 491 ⟨Tryz.t491.desc,Tryz.t491⟩ .leaf .leaf) .leaf))))) (.node 525 ⟨Tryz.t525.desc,Tryz.t525⟩ (.node 510 ⟨Tryz.t510.desc,Tryz.t510⟩ (.node 502 ⟨Tryz.t502.desc,Tryz.t502⟩ (.node 498 ⟨Tryz.t498.desc,Tryz.t498⟩ (.node 496 ⟨Tryz.t46.desc,Tryz.t496⟩ (.node 495 ⟨Tryz.t495.desc,Tryz.t495⟩ .leaf .leaf) (.node 497 ⟨Tryz.t497.desc,Tryz.t497⟩ .leaf .leaf)) (.node 500 ⟨Tryz.t500.desc,Tryz.t500⟩ (.node 499 ⟨Tryz.t499.desc,Tryz.t499⟩ .leaf .leaf) (.node 501 ⟨Tryz.t501.desc,Tryz.t501⟩ .leaf .leaf))) (.node 506 ⟨Tryz.t506.desc,Tryz.t506⟩ (.node 504 ⟨Tryz.t504.desc,Tryz.t504⟩ (.node 503 ⟨Tryz.t503.desc,Tryz.t503⟩ .leaf .leaf) (.node 505 ⟨Tryz.t505.desc,Tryz.t505⟩ .leaf .leaf)) (.node 508 ⟨Tryz.t508.desc,Tryz.t508⟩ (.node 507 ⟨Tryz.t507.desc,Tryz.t507⟩ .leaf .leaf) (.node 509 ⟨Tryz.t509.desc,Tryz.t509⟩ .leaf .leaf)))) (.node 518 ⟨Tryz.t518.desc,Tryz.t518⟩ (.node 514 ⟨Tryz.t514.desc,Tryz.t514⟩ (.node 512 ⟨Tryz.t512.desc,Tryz.t512⟩ (.node 511 ⟨Tryz.t511.desc,Tryz.t511⟩ .leaf .leaf) (.node 513 ⟨Tryz.t512.desc,Tryz.t513⟩ .leaf .leaf)) (.node 516 ⟨Tryz.t516.desc,Tryz.t516⟩ (.node 515 ⟨Tryz.t515.desc,Tryz.t515⟩ .leaf .leaf) (.node 517 ⟨Tryz.t517.desc,Tryz.t517⟩ .leaf .leaf))) (.node 522 ⟨Tryz.t522.desc,Tryz.t522⟩ (.node 520 ⟨Tryz.t519.desc,Tryz.t520⟩ (.node 519 ⟨Tryz.t519.desc,Tryz.t519⟩ .leaf .leaf) (.node 521 ⟨Tryz.t521.desc,Tryz.t521⟩ .leaf .leaf)) (.node 524 ⟨Tryz.t524.desc,Tryz.t524⟩ (.node 523 ⟨Tryz.t522.desc,Tryz.t523⟩ .leaf .leaf) .leaf)))) (.node 543 ⟨Tryz.t543.desc,Tryz.t543⟩ (.node 535 ⟨Tryz.t535.desc,Tryz.t535⟩ (.node 531 ⟨Tryz.t531.desc,Tryz.t531⟩ (.node 528 ⟨Tryz.t528.desc,Tryz.t528⟩ (.node 526 ⟨Tryz.t526.desc,Tryz.t526⟩ .leaf .leaf) (.node 529 ⟨Tryz.t529.desc,Tryz.t529⟩ .leaf .leaf)) (.node 533 ⟨Tryz.t533.desc,Tryz.t533⟩ (.node 532 ⟨Tryz.t532.desc,Tryz.t532⟩ .leaf .leaf) (.node 534 ⟨Tryz.t534.desc,Tryz.t534⟩ .leaf .leaf))) (.node 539 ⟨Tryz.t539.desc,Tryz.t539⟩ (.node 537 ⟨Tryz.t537.desc,Tryz.t537⟩ (.node 536 ⟨Tryz.t536.desc,Tryz.t536⟩ .leaf .leaf) (.node 538 ⟨Tryz.t538.desc,Tryz.t538⟩ .leaf .leaf)) (.node 541 ⟨Tryz.t541.desc,Tryz.t541⟩ (.node 540 ⟨Tryz.t540.desc,Tryz.t540⟩ .leaf .leaf) (.node 542 ⟨Tryz.t542.desc,Tryz.t542⟩ .leaf .leaf)))) (.node 551 ⟨Tryz.t551.desc,Tryz.t551⟩ (.node 547 ⟨Tryz.t547.desc,Tryz.t547⟩ (.node 545 ⟨Tryz.t544.desc,Tryz.t545⟩ (.node 544 ⟨Tryz.t544.desc,Tryz.t544⟩ .leaf .leaf) (.node 546 ⟨Tryz.t546.desc,Tryz.t546⟩ .leaf .leaf)) (.node 549 ⟨Tryz.t5.desc,Tryz.t549⟩ (.node 548 ⟨Tryz.t547.desc,Tryz.t548⟩ .leaf .leaf) (.node 550 ⟨Tryz.t5.desc,Tryz.t550⟩ .leaf .leaf))) (.node 555 ⟨Tryz.t555.desc,Tryz.t555⟩ (.node 553 ⟨Tryz.t21.desc,Tryz.t553⟩ (.node 552 ⟨Tryz.t552.desc,Tryz.t552⟩ .leaf .leaf) (.node 554 ⟨Tryz.t21.desc,Tryz.t554⟩ .leaf .leaf)) (.node 557 ⟨Tryz.t557.desc,Tryz.t557⟩ (.node 556 ⟨Tryz.t555.desc,Tryz.t556⟩ .leaf .leaf) .leaf))))))))
instance iN:eT Tryz.prog aU:=⟨⟨VC,⟨XN,⟨aaE,⟨aa9,⟨abo,⟨ac5,⟨ac9,⟨ada,⟨adb,trivial,trivial⟩,⟨ac',trivial,trivial⟩⟩,⟨ac7,⟨ac8,trivial,trivial⟩,⟨ac6,trivial,trivial⟩⟩⟩,⟨abt,⟨abv,⟨ac4,trivial,trivial⟩,⟨abu,trivial,trivial⟩⟩,⟨abq,⟨abr,trivial,trivial⟩,⟨abp,trivial,trivial⟩⟩⟩⟩,⟨abg,⟨abk,⟨abm,⟨abn,trivial,trivial⟩,⟨abl,trivial,trivial⟩⟩,⟨abi,⟨abj,trivial,trivial⟩,⟨abh,trivial,trivial⟩⟩⟩,⟨abc,⟨abe,⟨abf,trivial,trivial⟩,⟨abd,trivial,trivial⟩⟩,⟨aba,⟨abb,trivial,trivial⟩,⟨aa',trivial,trivial⟩⟩⟩⟩⟩,⟨aaT,⟨aa1,⟨aa5,⟨aa7,⟨aa8,trivial,trivial⟩,⟨aa6,trivial,trivial⟩⟩,⟨aa3,⟨aa4,trivial,trivial⟩,⟨aa2,trivial,trivial⟩⟩⟩,⟨aaX,⟨aaZ,⟨aa0,trivial,trivial⟩,⟨aaY,trivial,trivial⟩⟩,⟨aaV,⟨aaW,trivial,trivial⟩,⟨aaU,trivial,trivial⟩⟩⟩⟩,⟨aaL,⟨aaP,⟨aaR,⟨aaS,trivial,trivial⟩,⟨aaQ,trivial,trivial⟩⟩,⟨aaN,⟨aaO,trivial,trivial⟩,⟨aaM,trivial,trivial⟩⟩⟩,⟨aaH,⟨aaJ,⟨aaK,trivial,trivial⟩,⟨aaI,trivial,trivial⟩⟩,⟨aaF,⟨aaG,trivial,trivial⟩,trivial⟩⟩⟩⟩⟩,⟨Yh,⟨aao,⟨aaw,⟨aaA,⟨aaC,⟨aaD,trivial,trivial⟩,⟨aaB,trivial,trivial⟩⟩,⟨aay,⟨aaz,trivial,trivial⟩,⟨aax,trivial,trivial⟩⟩⟩,⟨aas,⟨aau,⟨aav,trivial,trivial⟩,⟨aat,trivial,trivial⟩⟩,⟨aaq,⟨aar,trivial,trivial⟩,⟨aap,trivial,trivial⟩⟩⟩⟩,⟨aag,⟨aak,⟨aam,⟨aan,trivial,trivial⟩,⟨aal,trivial,trivial⟩⟩,⟨aai,⟨aaj,trivial,trivial⟩,⟨aah,trivial,trivial⟩⟩⟩,⟨Yl,⟨aae,⟨aaf,trivial,trivial⟩,⟨Ym,trivial,trivial⟩⟩,⟨Yj,⟨Yk,trivial,trivial⟩,⟨Yi,trivial,trivial⟩⟩⟩⟩⟩,⟨X2,⟨X',⟨Yd,⟨Yf,⟨Yg,trivial,trivial⟩,⟨Ye,trivial,trivial⟩⟩,⟨Yb,⟨Yc,trivial,trivial⟩,⟨Ya,trivial,trivial⟩⟩⟩,⟨X6,⟨X8,⟨X9,trivial,trivial⟩,⟨X7,trivial,trivial⟩⟩,⟨X4,⟨X5,trivial,trivial⟩,⟨X3,trivial,trivial⟩⟩⟩⟩,⟨XU,⟨XY,⟨X0,⟨X1,trivial,trivial⟩,⟨XZ,trivial,trivial⟩⟩,⟨XW,⟨XX,trivial,trivial⟩,⟨XV,trivial,trivial⟩⟩⟩,⟨XQ,⟨XS,⟨XT,trivial,trivial⟩,⟨XR,trivial,trivial⟩⟩,⟨XO,⟨XP,trivial,trivial⟩,trivial⟩⟩⟩⟩⟩⟩,⟨WK,⟨Xg,⟨Xx,⟨XF,⟨XJ,⟨XL,⟨XM,trivial,trivial⟩,⟨XK,trivial,trivial⟩⟩,⟨XH,⟨XI,trivial,trivial⟩,⟨XG,trivial,trivial⟩⟩⟩,⟨XB,⟨XD,⟨XE,trivial,trivial⟩,⟨XC,trivial,trivial⟩⟩,⟨Xz,⟨XA,trivial,trivial⟩,⟨Xy,trivial,trivial⟩⟩⟩⟩,⟨Xo,⟨Xt,⟨Xv,⟨Xw,trivial,trivial⟩,⟨Xu,trivial,trivial⟩⟩,⟨Xq,⟨Xr,trivial,trivial⟩,⟨Xp,trivial,trivial⟩⟩⟩,⟨Xk,⟨Xm,⟨Xn,trivial,trivial⟩,⟨Xl,trivial,trivial⟩⟩,⟨Xi,⟨Xj,trivial,trivial⟩,⟨Xh,trivial,trivial⟩⟩⟩⟩⟩,⟨W0,⟨W8,⟨Xc,⟨Xe,⟨Xf,trivial,trivial⟩,⟨Xd,trivial,trivial⟩⟩,⟨Xa,⟨Xb,trivial,trivial⟩,⟨W9,trivial,trivial⟩⟩⟩,⟨W4,⟨W6,⟨W7,trivial,trivial⟩,⟨W5,trivial,trivial⟩⟩,⟨W2,⟨W3,trivial,trivial⟩,⟨W1,trivial,trivial⟩⟩⟩⟩,⟨WS,⟨WW,⟨WY,⟨WZ,trivial,trivial⟩,⟨WX,trivial,trivial⟩⟩,⟨WU,⟨WV,trivial,trivial⟩,⟨WT,trivial,trivial⟩⟩⟩,⟨WN,⟨WQ,⟨WR,trivial,trivial⟩,⟨WO,trivial,trivial⟩⟩,⟨WL,⟨WM,trivial,trivial⟩,trivial⟩⟩⟩⟩⟩,⟨Wc,⟨Ws,⟨WB,⟨WG,⟨WI,⟨WJ,trivial,trivial⟩,⟨WH,trivial,trivial⟩⟩,⟨WD,⟨WE,trivial,trivial⟩,⟨WC,trivial,trivial⟩⟩⟩,⟨Wx,⟨Wz,⟨WA,trivial,trivial⟩,⟨Wy,trivial,trivial⟩⟩,⟨Wv,⟨Ww,trivial,trivial⟩,⟨Wu,trivial,trivial⟩⟩⟩⟩,⟨Wj,⟨Wo,⟨Wq,⟨Wr,trivial,trivial⟩,⟨Wp,trivial,trivial⟩⟩,⟨Wm,⟨Wn,trivial,trivial⟩,⟨Wk,trivial,trivial⟩⟩⟩,⟨Wf,⟨Wh,⟨Wi,trivial,trivial⟩,⟨Wg,trivial,trivial⟩⟩,⟨Wd,⟨We,trivial,trivial⟩,trivial⟩⟩⟩⟩,⟨VS,⟨V0,⟨V8,⟨Wa,⟨Wb,trivial,trivial⟩,⟨V9,trivial,trivial⟩⟩,⟨V6,⟨V7,trivial,trivial⟩,⟨V5,trivial,trivial⟩⟩⟩,⟨VW,⟨VY,⟨VZ,trivial,trivial⟩,⟨VX,trivial,trivial⟩⟩,⟨VU,⟨VV,trivial,trivial⟩,⟨VT,trivial,trivial⟩⟩⟩⟩,⟨VJ,⟨VO,⟨VQ,⟨VR,trivial,trivial⟩,⟨VP,trivial,trivial⟩⟩,⟨VL,⟨VN,trivial,trivial⟩,⟨VK,trivial,trivial⟩⟩⟩,⟨VF,⟨VH,⟨VI,trivial,trivial⟩,⟨VG,trivial,trivial⟩⟩,⟨VD,⟨VE,trivial,trivial⟩,trivial⟩⟩⟩⟩⟩⟩⟩,⟨Tv,⟨Uz,⟨U5,⟨Vk,⟨Vt,⟨Vy,⟨VA,⟨VB,trivial,trivial⟩,⟨Vz,trivial,trivial⟩⟩,⟨Vv,⟨Vx,trivial,trivial⟩,⟨Vu,trivial,trivial⟩⟩⟩,⟨Vp,⟨Vr,⟨Vs,trivial,trivial⟩,⟨Vq,trivial,trivial⟩⟩,⟨Vn,⟨Vo,trivial,trivial⟩,⟨Vl,trivial,trivial⟩⟩⟩⟩,⟨Vc,⟨Vg,⟨Vi,⟨Vj,trivial,trivial⟩,⟨Vh,trivial,trivial⟩⟩,⟨Ve,⟨Vf,trivial,trivial⟩,⟨Vd,trivial,trivial⟩⟩⟩,⟨U9,⟨Va,⟨Vb,trivial,trivial⟩,⟨U',trivial,trivial⟩⟩,⟨U7,⟨U8,trivial,trivial⟩,⟨U6,trivial,trivial⟩⟩⟩⟩⟩,⟨UO,⟨UX,⟨U1,⟨U3,⟨U4,trivial,trivial⟩,⟨U2,trivial,trivial⟩⟩,⟨UZ,⟨U0,trivial,trivial⟩,⟨UY,trivial,trivial⟩⟩⟩,⟨US,⟨UU,⟨UW,trivial,trivial⟩,⟨UT,trivial,trivial⟩⟩,⟨UQ,⟨UR,trivial,trivial⟩,⟨UP,trivial,trivial⟩⟩⟩⟩,⟨UG,⟨UK,⟨UM,⟨UN,trivial,trivial⟩,⟨UL,trivial,trivial⟩⟩,⟨UI,⟨UJ,trivial,trivial⟩,⟨UH,trivial,trivial⟩⟩⟩,⟨UC,⟨UE,⟨UF,trivial,trivial⟩,⟨UD,trivial,trivial⟩⟩,⟨UA,⟨UB,trivial,trivial⟩,trivial⟩⟩⟩⟩⟩,⟨T4,⟨Uj,⟨Ur,⟨Uv,⟨Ux,⟨Uy,trivial,trivial⟩,⟨Uw,trivial,trivial⟩⟩,⟨Ut,⟨Uu,trivial,trivial⟩,⟨Us,trivial,trivial⟩⟩⟩,⟨Un,⟨Up,⟨Uq,trivial,trivial⟩,⟨Uo,trivial,trivial⟩⟩,⟨Ul,⟨Um,trivial,trivial⟩,⟨Uk,trivial,trivial⟩⟩⟩⟩,⟨Ub,⟨Uf,⟨Uh,⟨Ui,trivial,trivial⟩,⟨Ug,trivial,trivial⟩⟩,⟨Ud,⟨Ue,trivial,trivial⟩,⟨Uc,trivial,trivial⟩⟩⟩,⟨T8,⟨T',⟨Ua,trivial,trivial⟩,⟨T9,trivial,trivial⟩⟩,⟨T6,⟨T7,trivial,trivial⟩,⟨T5,trivial,trivial⟩⟩⟩⟩⟩,⟨TM,⟨TV,⟨TZ,⟨T2,⟨T3,trivial,trivial⟩,⟨T1,trivial,trivial⟩⟩,⟨TX,⟨TY,trivial,trivial⟩,⟨TW,trivial,trivial⟩⟩⟩,⟨TR,⟨TT,⟨TU,trivial,trivial⟩,⟨TS,trivial,trivial⟩⟩,⟨TO,⟨TQ,trivial,trivial⟩,⟨TN,trivial,trivial⟩⟩⟩⟩,⟨TE,⟨TI,⟨TK,⟨TL,trivial,trivial⟩,⟨TJ,trivial,trivial⟩⟩,⟨TG,⟨TH,trivial,trivial⟩,⟨TF,trivial,trivial⟩⟩⟩,⟨Tz,⟨TB,⟨TD,trivial,trivial⟩,⟨TA,trivial,trivial⟩⟩,⟨Tw,⟨Tx,trivial,trivial⟩,trivial⟩⟩⟩⟩⟩⟩,⟨Sh,⟨SU,⟨Td,⟨Tm,⟨Tq,⟨Tt,⟨Tu,trivial,trivial⟩,⟨Ts,trivial,trivial⟩⟩,⟨To,⟨Tp,trivial,trivial⟩,⟨Tn,trivial,trivial⟩⟩⟩,⟨Th,⟨Tj,⟨Tl,trivial,trivial⟩,⟨Ti,trivial,trivial⟩⟩,⟨Tf,⟨Tg,trivial,trivial⟩,⟨Te,trivial,trivial⟩⟩⟩⟩,⟨S5,⟨S9,⟨Tb,⟨Tc,trivial,trivial⟩,⟨Ta,trivial,trivial⟩⟩,⟨S7,⟨S8,trivial,trivial⟩,⟨S6,trivial,trivial⟩⟩⟩,⟨SZ,⟨S3,⟨S4,trivial,trivial⟩,⟨S0,trivial,trivial⟩⟩,⟨SX,⟨SY,trivial,trivial⟩,⟨SV,trivial,trivial⟩⟩⟩⟩⟩,⟨Sz,⟨SH,⟨SO,⟨SR,⟨SS,trivial,trivial⟩,⟨SP,trivial,trivial⟩⟩,⟨SM,⟨SN,trivial,trivial⟩,⟨SK,trivial,trivial⟩⟩⟩,⟨SD,⟨SF,⟨SG,trivial,trivial⟩,⟨SE,trivial,trivial⟩⟩,⟨SB,⟨SC,trivial,trivial⟩,⟨SA,trivial,trivial⟩⟩⟩⟩,⟨Sp,⟨Su,⟨Sw,⟨Sy,trivial,trivial⟩,⟨Sv,trivial,trivial⟩⟩,⟨Sr,⟨Ss,trivial,trivial⟩,⟨Sq,trivial,trivial⟩⟩⟩,⟨Sk,⟨Sm,⟨Sn,trivial,trivial⟩,⟨Sl,trivial,trivial⟩⟩,⟨Si,⟨Sj,trivial,trivial⟩,trivial⟩⟩⟩⟩⟩,⟨RM,⟨R1,⟨R',⟨Sd,⟨Sf,⟨Sg,trivial,trivial⟩,⟨Se,trivial,trivial⟩⟩,⟨Sb,⟨Sc,trivial,trivial⟩,⟨Sa,trivial,trivial⟩⟩⟩,⟨R6,⟨R8,⟨R9,trivial,trivial⟩,⟨R7,trivial,trivial⟩⟩,⟨R4,⟨R5,trivial,trivial⟩,⟨R3,trivial,trivial⟩⟩⟩⟩,⟨RT,⟨RX,⟨RZ,⟨R0,trivial,trivial⟩,⟨RY,trivial,trivial⟩⟩,⟨RV,⟨RW,trivial,trivial⟩,⟨RU,trivial,trivial⟩⟩⟩,⟨RP,⟨RR,⟨RS,trivial,trivial⟩,⟨RQ,trivial,trivial⟩⟩,⟨RN,⟨RO,trivial,trivial⟩,trivial⟩⟩⟩⟩,⟨Rw,⟨RE,⟨RI,⟨RK,⟨RL,trivial,trivial⟩,⟨RJ,trivial,trivial⟩⟩,⟨RG,⟨RH,trivial,trivial⟩,⟨RF,trivial,trivial⟩⟩⟩,⟨RA,⟨RC,⟨RD,trivial,trivial⟩,⟨RB,trivial,trivial⟩⟩,⟨Ry,⟨Rz,trivial,trivial⟩,⟨Rx,trivial,trivial⟩⟩⟩⟩,⟨Rn,⟨Rr,⟨Ru,⟨Rv,trivial,trivial⟩,⟨Rs,trivial,trivial⟩⟩,⟨Rp,⟨Rq,trivial,trivial⟩,⟨Ro,trivial,trivial⟩⟩⟩,⟨Rj,⟨Rl,⟨Rm,trivial,trivial⟩,⟨Rk,trivial,trivial⟩⟩,⟨Rh,⟨Ri,trivial,trivial⟩,trivial⟩⟩⟩⟩⟩⟩⟩⟩⟩
def mixed:Tryz.prog.follows .mixedOrders=true:=by kernel_rfl
def go{A B:Prop}(a:A)(h:Z5 A→B:=by(intro h;(repeat'(first|refine DP (U:=aU) rfl ?_|(refine HY ?_;first|refine sw zr zr zr zr ?_|refine sx zr zr zr zr zr zr zr ?_|refine su zr zr zr zr zr zr ?_|refine pZ zr zr zr zr zr zr ?_)|(refine aP ?_;first|refine eu (U:=aU) 0 zr zr zr zr zr zr ?_|refine eu (U:=aU) 1 zr zr zr zr zr zr ?_|refine eu (U:=aU) 2 zr zr zr zr zr zr ?_|refine eu (U:=aU) 3 zr zr zr zr zr zr ?_|refine eu (U:=aU) 4 zr zr zr zr zr zr ?_|refine eu (U:=aU) 5 zr zr zr zr zr zr ?_|refine gl (U:=aU) 0 zr zr zr zr zr zr ?_|refine gl (U:=aU) 1 zr zr zr zr zr zr ?_|refine gl (U:=aU) 2 zr zr zr zr zr zr ?_)|(refine sr ?_;first|refine vh zr zr zr ?_|refine vj zr zr zr ?_)|(refine lU ?_;first|refine DQ zr zr zr (by simp only[fz];omega) ?_|refine Bs zr zr zr (by simp only[fz];omega) ?_)|(refine ed ?_;refine xO (U:=aU) zr zr zr zr zr zr (by simp only[fz];omega) ?_)|(refine aY ?_;first|refine ei (U:=aU) 0 e8 zr zr zr zr zr zr zr zr zr ?_|refine ei (U:=aU) 1 e8 zr zr zr zr zr zr zr zr zr ?_|refine ei (U:=aU) 2 e8 zr zr zr zr zr zr zr zr zr ?_|refine ei (U:=aU) 3 e8 zr zr zr zr zr zr zr zr zr ?_)|refine DO ?_|refine aD rfl ?_|refine vg zr zr ?_|refine kD zr zr ?_));exact h.out)):B:=h ⟨a⟩
def er{A B:Prop}(a:A)(h:Z5 A→B:=by(intro h;(first|refine DP (U:=aU) rfl ?_|(refine HY ?_;first|refine sw zr zr zr zr ?_|refine sx zr zr zr zr zr zr zr ?_|refine su zr zr zr zr zr zr ?_|refine pZ zr zr zr zr zr zr ?_)|(refine aP ?_;first|refine eu (U:=aU) 0 zr zr zr zr zr zr ?_|refine eu (U:=aU) 1 zr zr zr zr zr zr ?_|refine eu (U:=aU) 2 zr zr zr zr zr zr ?_|refine eu (U:=aU) 3 zr zr zr zr zr zr ?_|refine eu (U:=aU) 4 zr zr zr zr zr zr ?_|refine eu (U:=aU) 5 zr zr zr zr zr zr ?_|refine gl (U:=aU) 0 zr zr zr zr zr zr ?_|refine gl (U:=aU) 1 zr zr zr zr zr zr ?_|refine gl (U:=aU) 2 zr zr zr zr zr zr ?_)|(refine sr ?_;first|refine vh zr zr zr ?_|refine vj zr zr zr ?_)|(refine lU ?_;first|refine DQ zr zr zr (by simp only[fz];omega) ?_|refine Bs zr zr zr (by simp only[fz];omega) ?_)|(refine ed ?_;refine xO (U:=aU) zr zr zr zr zr zr (by simp only[fz];omega) ?_)|(refine aY ?_;first|refine ei (U:=aU) 0 e8 zr zr zr zr zr zr zr zr zr ?_|refine ei (U:=aU) 1 e8 zr zr zr zr zr zr zr zr zr ?_|refine ei (U:=aU) 2 e8 zr zr zr zr zr zr zr zr zr ?_|refine ei (U:=aU) 3 e8 zr zr zr zr zr zr zr zr zr ?_)|refine DO ?_|refine aD rfl ?_|refine vg zr zr ?_|refine kD zr zr ?_);(repeat'(first|refine DP (U:=aU) rfl ?_|(refine HY ?_;first|refine sw zr zr zr zr ?_|refine sx zr zr zr zr zr zr zr ?_|refine su zr zr zr zr zr zr ?_|refine pZ zr zr zr zr zr zr ?_)|(refine aP ?_;first|refine eu (U:=aU) 0 zr zr zr zr zr zr ?_|refine eu (U:=aU) 1 zr zr zr zr zr zr ?_|refine eu (U:=aU) 2 zr zr zr zr zr zr ?_|refine eu (U:=aU) 3 zr zr zr zr zr zr ?_|refine eu (U:=aU) 4 zr zr zr zr zr zr ?_|refine eu (U:=aU) 5 zr zr zr zr zr zr ?_|refine gl (U:=aU) 0 zr zr zr zr zr zr ?_|refine gl (U:=aU) 1 zr zr zr zr zr zr ?_|refine gl (U:=aU) 2 zr zr zr zr zr zr ?_)|(refine sr ?_;first|refine vh zr zr zr ?_|refine vj zr zr zr ?_)|(refine lU ?_;first|refine DQ zr zr zr (by simp only[fz];omega) ?_|refine Bs zr zr zr (by simp only[fz];omega) ?_)|(refine ed ?_;refine xO (U:=aU) zr zr zr zr zr zr (by simp only[fz];omega) ?_)|(refine aY ?_;first|refine ei (U:=aU) 0 e8 zr zr zr zr zr zr zr zr zr ?_|refine ei (U:=aU) 1 e8 zr zr zr zr zr zr zr zr zr ?_|refine ei (U:=aU) 2 e8 zr zr zr zr zr zr zr zr zr ?_|refine ei (U:=aU) 3 e8 zr zr zr zr zr zr zr zr zr ?_)|refine DO ?_|refine aD rfl ?_|refine vg zr zr ?_|refine kD zr zr ?_));exact h.out)):B:=h ⟨a⟩
def oe{A B:Prop}(a:A)(h:Z5 A→B:=by(intro h;(repeat'(first|refine DP (U:=aU) rfl ?_|(refine HY ?_;first|refine sw zr zr zr zr ?_|refine sx zr zr zr zr zr zr zr ?_|refine su zr zr zr zr zr zr ?_|refine pZ zr zr zr zr zr zr ?_)|(refine aP ?_;first|refine eu (U:=aU) 0 zr zr zr zr zr zr ?_|refine eu (U:=aU) 1 zr zr zr zr zr zr ?_|refine eu (U:=aU) 2 zr zr zr zr zr zr ?_|refine eu (U:=aU) 3 zr zr zr zr zr zr ?_|refine eu (U:=aU) 4 zr zr zr zr zr zr ?_|refine eu (U:=aU) 5 zr zr zr zr zr zr ?_|refine gl (U:=aU) 0 zr zr zr zr zr zr ?_|refine gl (U:=aU) 1 zr zr zr zr zr zr ?_|refine gl (U:=aU) 2 zr zr zr zr zr zr ?_)|(refine sr ?_;first|refine vh zr zr zr ?_|refine vj zr zr zr ?_)|(refine lU ?_;first|refine DQ zr zr zr (by simp only[fz];omega) ?_|refine Bs zr zr zr (by simp only[fz];omega) ?_)|(refine ed ?_;refine xO (U:=aU) zr zr zr zr zr zr (by simp only[fz];omega) ?_)|(refine aY ?_;first|refine ei (U:=aU) 0 e8 zr zr zr zr zr zr zr zr zr ?_|refine ei (U:=aU) 1 e8 zr zr zr zr zr zr zr zr zr ?_|refine ei (U:=aU) 2 e8 zr zr zr zr zr zr zr zr zr ?_|refine ei (U:=aU) 3 e8 zr zr zr zr zr zr zr zr zr ?_)|refine DO ?_));exact h.out)):B:=h ⟨a⟩
def gR := @H4 Tryz.prog aU iN
def aj := @yE Tryz.prog aU iN
def aJ := @N5 Tryz.prog aU iN
def bp := @acX Tryz.prog aU iN
def aQ := @N1 Tryz.prog aU iN
def bw := @Gk Tryz.prog aU iN
def az := @Qo Tryz.prog aU iN
def gP := @xN Tryz.prog aU iN
def fg := @Gp Tryz.prog aU iN
def cO := @Kp Tryz.prog aU iN
def il := @DM Tryz.prog aU iN
def bW := @acY Tryz.prog aU iN
def bN := @ei Tryz.prog aU iN
def bP := @Kq Tryz.prog aU iN
def jK := @N0 Tryz.prog aU iN
def eB := @DL Tryz.prog aU iN
def iH := @Qm Tryz.prog aU iN
def kQ := @Bv Tryz.prog aU iN
def gO := @Gj Tryz.prog aU iN
end Go.Proofs.YtlcoaflddajjcaaGreatDoor
namespace Go.Proofs.YtlcoaflddajjcaaGreatDoor
open Go Go.SL
def Nt{A:HP}{v:Value}{bs:List UInt8}(hv:Vw A v bs.length (bV bs))(h:0<bs.length):∃b o c,v = .slice (some ⟨b,o,none⟩) bs.length c:=hv.some (by cases bs with
 | nil=>simp at h
 | cons x l=>simp[bV])
theorem ve{bs:List UInt8}{i:Nat}(h:i<bs.length):(bV bs)[i]?=some (u8 (bs.getD i 0)):=by
 grind [bV]
theorem vO{x q:Nat}(y:Nat)(h:x*2 ^ (min q 64)=y)(hy:y<9223372036854775808):Value.int .i64 (IntKind.i64.wrap ((x:Int)*2 ^ (min ((q:Int).toNat) IntKind.i64.bits))) = .int .i64 (y:Int):=by
 have e:(x:Int)*2 ^ (min ((q:Int).toNat) IntKind.i64.bits)=(y:Int):=by
  show(x:Int)*2 ^ (min q 64)=_
  grind
 grind [dx,fz]
end Go.Proofs.YtlcoaflddajjcaaGreatDoor
namespace Go.SL
def uv(n:Nat):List UInt8:=if n<128 then [UInt8.ofNat n]else UInt8.ofNat (n%128+128)::uv (n/128)
termination_by n
decreasing_by omega
theorem fX{n:Nat}(h:n<128):uv n=[UInt8.ofNat n]:=by rw[uv,if_pos h]
theorem vu{n:Nat}(h:¬n<128):uv n=UInt8.ofNat (n%128+128)::uv (n/128):=by rw[uv,if_neg h]
def vt:∀(k n:Nat),n<128 ^ (k+1)→(uv n).length≤k+1
 | 0,n,h=>by rw[fX (by simpa using h)];simp
 | k+1,n,h=>by
  by_cases hn:n<128
  ·rw[fX hn];simp
  ·rw[vu hn,List.length_cons]
   have:=vt k (n/128) (Nat.div_lt_of_lt_mul (by rw[Nat.pow_succ,Nat.mul_comm]at h;exact h))
   omega
theorem mu{n:Nat}(h:n<18446744073709551616):(uv n).length≤10:=vt 9 n (Nat.lt_of_lt_of_le h (by decide))
theorem K1(n:Nat):0<(uv n).length:=by
 grind [fX,vu]
theorem acH(m:Nat):Value.int .u8 (IntKind.u8.wrap (m:Int)) = .int .u8 ((m%256:Nat):Int):=by
 have h:IntKind.u8.wrap (m:Int)=(m:Int)%256:=by simp[IntKind.wrap,IntKind.bits,IntKind.signed]
 grind
theorem O1(m:Nat):Value.int .u8 (IntKind.u8.wrap ((BitVec.ofInt IntKind.u8.bits ((m%256:Nat):Int) ||| BitVec.ofInt IntKind.u8.bits 128).toNat:Int))=u8 (UInt8.ofNat (m%128+128)):=by
 rw[L2 _ ai]
 simp only[u8,UInt8.toNat_ofNat']
 grind
def p9:Nat→Nat→List UInt8→Option (Nat × List UInt8 × Bool)
 | _,_,[]=>none
 | i,acc,c::r=>if i=10∨(i=9∧1<c.toNat)then none else if c.toNat<128 then some (acc+c.toNat*2 ^ (7*i),r,decide (i=0∨0<c.toNat))else p9 (i+1) (acc+(c.toNat%128)*2 ^ (7*i)) r
def cR(bs:List UInt8):Nat × List UInt8 × Bool:=(p9 0 0 bs).getD (0,[],false)
def cY(bs:List UInt8):Option Nat:=if(cR bs).2.2=true∧(cR bs).2.1=[]then some (cR bs).1 else none
theorem GM{i acc c:Nat}(ha:acc<2 ^ (7*i))(hc:c<128):acc+c*2 ^ (7*i)<2 ^ (7*(i+1)):=by
 have h1:acc+c*2 ^ (7*i)<(c+1)*2 ^ (7*i):=by rw[Nat.add_mul,Nat.one_mul];omega
 have h2:(c+1)*2 ^ (7*i)≤128*2 ^ (7*i):=Nat.mul_le_mul_right _ ai
 grind
theorem OB{i acc c:Nat}(hi:i≤9)(ha:acc<2 ^ (7*i))(hc:c<128)(h9:i=9→c≤1):acc+c*2 ^ (7*i)<18446744073709551616:=by
 by_cases h:i=9
 ·grind
 ·have h1:=GM ha hc
  have h2:2 ^ (7*(i+1))≤2 ^ 63:=Nat.pow_le_pow_right ai ai
  omega
theorem HG:∀(k n i acc:Nat) (rest:List UInt8),n<128 ^ (k+1)→i+k≤8→(i≠0→n≠0)→p9 i acc (uv n++rest)=some (acc+n*2 ^ (7*i),rest,true)
 | k,n,i,acc,rest,hn,hik,h0=>by
  by_cases h:n<128
  ·rw[fX h]
   have e:(UInt8.ofNat n).toNat=n:=by simp only[UInt8.toNat_ofNat'];omega
   simp only[List.cons_append,List.nil_append,p9,e]
   rw[if_neg ai,if_pos h]
   have:(i=0∨0<n):=by
    grind
   grind
  ·cases k with
   | zero=>simp at hn;omega
   | succ k =>
    rw[vu h]
    have e:(UInt8.ofNat (n%128+128)).toNat=n%128+128:=by simp only[UInt8.toNat_ofNat'];omega
    simp only[List.cons_append,p9,e]
    rw[if_neg ai,if_neg ai,show(n%128+128)%128=n%128 from by omega,
     HG k (n/128) (i+1) _ rest (Nat.div_lt_of_lt_mul (by rw[Nat.pow_succ,Nat.mul_comm]at hn;exact hn)) ai (by intro _;omega)]
    have h3:n/128*2 ^ (7*(i+1))=n/128*128*2 ^ (7*i):=by rw[show 7*(i+1)=7+7*i from by omega,Nat.pow_add,Nat.mul_assoc]
    have h4:n%128*2 ^ (7*i)+n/128*128*2 ^ (7*i)=n*2 ^ (7*i):=by rw[← Nat.add_mul];congr 1;omega
    grind
def HH{n:Nat}(h:n<9223372036854775808)(rest:List UInt8):cR (uv n++rest)=(n,rest,true):=by
 unfold cR
 rw[HG 8 n 0 0 rest (Nat.lt_of_lt_of_le h (by decide)) ai (by intro h;exact absurd rfl h)]
 simp
theorem yR{n:Nat}(h:n<9223372036854775808):cY (uv n)=some n:=by
 have:=HH h []
 grind [cY]
def nQ(bs:List UInt8):Option (Nat × Nat) :=
 if 1≤bs.length then match cY (bs.take 1)with
  | some n=>some (1,n)
  | none=>if 2≤bs.length then(cY (bs.take 2)).map fun n=>(2,n)else none
 else none
theorem mZ{bs:List UInt8}{n:Nat}(h:cY bs=some n)(hl:bs.length≤2):n<16384:=by
 unfold cY cR at h
 split at h
 ·rename_i hh
  cases h
  match bs,hl with
  | [],_=>simp[p9]at hh
  | [a],_ =>
   grind [p9]
  | [a,b],_ =>
   grind [p9]
 ·cases h
end Go.SL
namespace Go.Proofs.YtlcoaflddajjcaaGreatDoor
open Go Go.SL
variable{A:HP}{bs:List UInt8}{n:Nat}{a:Option Addr}
attribute [local irreducible] J K au Ends ae aB aI bB aW aS a7 aX
def lk(n:Nat)(h:n<18446744073709551616):au Tryz.prog 254 [.int .u64 (n:Int)] [] (fun r H=>H=[aB 5 1 r (uv n).length (bV (uv n))]):=by
 refine au.ak Tryz.func254 Tryz.ntmps254 fun G F R hE=>?_
 refine go ?_
 first|refine al (bg 5 1 none _) ?_|refine aN (bg 5 1 none _) ?_
 have adu:=mu h
 refine bj (fun s:Nat × List UInt8 × Value=>s.2.1++uv s.1=uv n∧s.1≤n) (fun s=>s.1)
  (fun s=>[(0,.int .u64 (s.1:Int)),(3,s.2.2)])
  (fun s=>aB 5 1 s.2.2 s.2.1.length (bV s.2.1)::F) (n,[],.slice none 0 0) ⟨rfl,Nat.le_refl _⟩ rfl bS ag ?_
 rintro⟨m,done,v⟩⟨hm,hmn⟩ ih
 simp only at hm hmn
 have hlen:done.length+(uv m).length≤10:=by rw[← List.length_append,hm];exact adu
 have oO:=K1 m
 first|refine aH 0 rfl ?_|refine db 0 rfl ?_
 rintro va vc hve
 simp only at hve
 subst hve
 refine go ?_
 refine aq zr zr ?_ ?_
 ·intro ep
  simp only at ep
  have qE:¬m<128:=by omega
  refine go ?_
  refine gR zr zr zr zr zr zr ?_
  refine aG 10 (.int .u8 ((m%256:Nat):Int)) rfl (acH m) (go ?_)
  refine aG 11 (u8 (UInt8.ofNat (m%128+128))) rfl (O1 m) ?_
  refine aj (cs:=bV [UInt8.ofNat (m%128+128)]) zr zr zr zr zr zr zr zr zr bh ?_
  intro b1
  refine aJ (mm:=1) (news:=bV [UInt8.ofNat (m%128+128)]) 1 0 zr zr zr zr zr zr zr zr zr zr zr zr (Vw.ae rfl) rfl (cB _) (by simp only;omega) (by show(_+1)*1≤_;simp only;omega) (fun _=>rfl) bh ?_
  intro v1
  rw[show bV done++bV [UInt8.ofNat (m%128+128)]=bV (done++[UInt8.ofNat (m%128+128)])from by simp[bV],show done.length+1=(done++[UInt8.ofNat (m%128+128)]).length from by simp]
  first|refine aH 1 rfl ?_|refine db 1 rfl ?_
  rintro wa wc rfl
  refine go ?_
  refine iI zr zr zr ai ?_
  refine aG 7 (.int .u64 ((m/128:Nat):Int)) rfl (congrArg (Value.int .u64) (by show(m:Int)/128=_;omega)) ?_
  refine go ?_
  refine aM ih (m/128,done++[UInt8.ofNat (m%128+128)],_) rfl ⟨by simp only[List.append_assoc,List.singleton_append];rw[← vu qE];exact hm,by simp only;omega⟩ (by simp only;omega) bS ag
 ·intro cL
  simp only at cL
  have xW:m<128:=by omega
  refine go ?_
  refine aG 16 (u8 (UInt8.ofNat m)) rfl (by simp only[u8,UInt8.toNat_ofNat'];congr 1;omega) ?_
  refine aj (cs:=bV [UInt8.ofNat m]) zr zr zr zr zr zr zr zr zr bh ?_
  intro b1
  refine aJ (mm:=1) (news:=bV [UInt8.ofNat m]) 1 0 zr zr zr zr zr zr zr zr zr zr zr zr (Vw.ae rfl) rfl (cB _) (by simp only;omega) (by show(_+1)*1≤_;simp only;omega) (fun _=>rfl) bh ?_
  intro v1
  rw[show bV done++bV [UInt8.ofNat m]=bV (uv n)from by rw[← hm,fX xW];simp[bV],show done.length+1=(uv n).length from by rw[← hm,fX xW];simp]
  refine go ?_
  first|refine aK hE Tryz.func254 rfl _ zr zr ag|refine bL hE Tryz.func254 rfl _ zr zr ag
theorem y5{x q y:Nat}(hq:q≤64)(h:x*2 ^ q=y)(hy:y<18446744073709551616):Value.int .u64 (IntKind.u64.wrap ((x:Int)*2 ^ (min ((q:Int).toNat) IntKind.u64.bits))) = .int .u64 (y:Int):=by
 have e:(x:Int)*2 ^ (min ((q:Int).toNat) IntKind.u64.bits)=(y:Int):=by
  show(x:Int)*2 ^ (min q 64)=_
  grind
 grind [dx,fz]
def Cs(A:HP):Vw A (.slice none 0 0) ([]:List UInt8).length (bV []):=⟨none,0,rfl,.inl rfl⟩
theorem HF(A:HP)(v:Value)(bs:List UInt8)(hv:Vw A v bs.length (bV bs))(fY:∃a c,v = .slice a bs.length c∧bs.length≤c)(hl:bs.length≤9223372036854775807) :
    au Tryz.prog 343 [v] [A] (fun r H=>∃rv,r = .tuple #[.int .u64 ((cR bs).1:Int),rv,.bool (cR bs).2.2]∧(Vw A rv (cR bs).2.1.length (bV (cR bs).2.1)∧∃a c,rv = .slice a (cR bs).2.1.length c∧(cR bs).2.1.length≤c)∧H=[A]):=by
  obtain⟨a0,c0,rfl,M5⟩:=fY
  refine au.ak Tryz.func343 Tryz.ntmps343 fun G F R hE=>?_
  refine go ?_
  refine bj (fun s:Nat × Nat=>s.1≤bs.length∧s.1≤10∧(s.1≤9→s.2<2 ^ (7*s.1))∧p9 0 0 bs=p9 s.1 s.2 (bs.drop s.1)) (fun s=>bs.length-s.1)
    (fun s=>[(0,.slice a0 bs.length c0),(5,.int .u64 (s.2:Int)),(8,.slice a0 bs.length c0),(9,.int .i64 bs.length),(10,.int .i64 s.1)])
    (fun _=>A::F) (0,0) ⟨Nat.zero_le _,ai,by simp,by simp⟩ rfl bS ag ?_
  rintro⟨i,acc⟩⟨hi,wL,eX,lA⟩ ih
  simp only at hi wL eX lA
  refine go ?_
  refine aq zr zr ?_ ?_
  case' refine_2 =>
    intro ep
    simp only at ep
    have Jh:cR bs=(0,[],false):=by
      grind [cR,p9]
    refine go ?_
    rw[Jh]at hE
    first|refine ad hE Tryz.func343 zr zr ⟨_,rfl,⟨Cs A,none,0,rfl,Nat.le_refl _⟩,rfl⟩|refine bL hE Tryz.func343 rfl _ rfl ⟨_,rfl,⟨Cs A,none,0,rfl,Nat.le_refl _⟩,rfl⟩ ag
  intro cL
  simp only at cL
  have dA:i<bs.length:=by omega
  obtain⟨ba,oa,ca,dL⟩:=Nt hv ai
  simp only[Value.slice.injEq,true_and]at dL
  obtain⟨rfl,rfl⟩:=dL
  obtain⟨c,hc⟩:∃c,bs[i]?=some c:=⟨bs[i],by simp⟩
  have hdr:bs.drop i=c::bs.drop (i+1):=by
    rw[List.drop_eq_getElem_cons dA];congr 1
    grind
  have Q5:c.toNat<256:=c.toNat_lt
  rw[hdr]at lA
  simp only[p9]at lA
  refine go ?_
  refine bp i zr zr zr zr zr zr zr zr dA ?_
  refine aQ 0 i zr zr zr hv rfl (tO hc) zr zr ?_
  repeat'(first|(with_reducible intro jg)|refine er ?_|refine nM ?_ ?_|refine dP zr zr zr zr ?_ ?_|refine aq zr zr ?_ ?_)
  case' refine_1 =>
    have lB:(i=10∨(i=9∧1<c.toNat)):=by simp only at *;omega
  case' refine_2.refine_1.refine_1 =>
    have lB:(i=10∨(i=9∧1<c.toNat)):=by simp only at *;omega
  case' refine_2.refine_1.refine_2 => 
    have rO:¬(i=10∨(i=9∧1<c.toNat)):=by simp only at *;omega
  case' refine_2.refine_2 => 
    have rO:¬(i=10∨(i=9∧1<c.toNat)):=by simp only at *;omega
  any_goals (
    have Jh:cR bs=(0,[],false):=by unfold cR;rw[lA,if_pos lB];rfl
    rw[Jh]at hE
    (first|refine ad hE Tryz.func343 zr zr ⟨_,rfl,⟨Cs A,none,0,rfl,Nat.le_refl _⟩,rfl⟩|refine bL hE Tryz.func343 rfl _ rfl ⟨_,rfl,⟨Cs A,none,0,rfl,Nat.le_refl _⟩,rfl⟩ ag))
  all_goals(
    have hi9:i≤9:=by omega
    have hac:=eX hi9
    have zv:c.toNat%128<128:=Nat.mod_lt _ ai
    have Na:=OB (c:=c.toNat%128) hi9 hac zv (by intro h;omega)
    refine aG 27 (.int .u8 ((c.toNat%128:Nat):Int)) rfl (congrArg (Value.int .u8) (Be _ Q5)) (go ?_)
    refine eN zr zr zr (by simp only[fz];omega) ?_
    refine aG 30 (.int .i64 ((7*i:Nat):Int)) rfl (congrArg (Value.int .i64) (by simp only;omega)) ?_
    refine pt zr zr zr ai ?_
    refine aG 31 (.int .u64 ((c.toNat%128*2 ^ (7*i):Nat):Int)) rfl (y5 ai rfl ai) (go ?_)
    refine bq 5 (.int .u64 ((acc+c.toNat%128*2 ^ (7*i):Nat):Int)) rfl (congrArg (Value.int .u64) (YA hac Na)) (go ?_)
    refine aq zr zr ?_ ?_
    · intro aeR
      have hcm:c.toNat%128=c.toNat:=by omega
      have ly:cR bs=(acc+c.toNat%128*2 ^ (7*i),bs.drop (i+1),decide (i=0∨0<c.toNat)):=by
        grind [cR]
      refine aL (fun w=>Sat G w ([])) (mz 0 14 .nil) rfl ah ah ah dv ?_
      refine go ?_
      refine bw (p:=(i:Int)+1) (q:=(bs.length:Int)) zr zr zr zr zr zr zr ai ai (.inl rfl) ?_
      refine aG 39 (.slice (sliceAt (some ⟨ba,oa,none⟩) c0 (i+1) 1) (bs.drop (i+1)).length (c0-(i+1))) rfl (by rw[show((i:Int)+1).toNat=i+1 from by omega,show((bs.length:Int)).toNat=bs.length from by omega,List.length_drop];rfl) ?_
      have CK:Vw A (.slice (sliceAt (some ⟨ba,oa,none⟩) c0 (i+1) 1) (bs.drop (i+1)).length (c0-(i+1))) (bs.drop (i+1)).length (bV (bs.drop (i+1))):=by
        have:=hv.JM (s:=1) (by rw[bD];omega) M5 (i+1) ai
        rw[List.length_drop,show bV (bs.drop (i+1))=(bV bs).drop ((i+1)*1)from by simp[bV,List.map_drop]]
        exact this
      rw[ly]at hE
      repeat'(first|(with_reducible intro jg)|refine er ?_|refine nM ?_ ?_|refine dP zr zr zr zr ?_ ?_|refine aq zr zr ?_ ?_)
      all_goals first
        | (have Ea:i=0:=(by simp only at jg;omega)
           rw[decide_eq_true (Or.inl Ea:i=0∨0<c.toNat)]at hE
           (first|refine ad hE Tryz.func343 zr zr ⟨_,rfl,⟨CK,_,_,rfl,by simp only[List.length_drop];omega⟩,rfl⟩|refine bL hE Tryz.func343 rfl _ rfl ⟨_,rfl,⟨CK,_,_,rfl,by simp only[List.length_drop];omega⟩,rfl⟩ ag))
        | (have Ea:¬i=0:=(by simp only at jg;omega)
           rw[show decide (i=0∨0<c.toNat)=decide ((0:Int)<(c.toNat:Int))from decide_eq_decide.2 ⟨fun h=>by omega,fun h => .inr ai⟩]at hE
           (first|refine ad hE Tryz.func343 zr zr ⟨_,rfl,⟨CK,_,_,rfl,by simp only[List.length_drop];omega⟩,rfl⟩|refine bL hE Tryz.func343 rfl _ rfl ⟨_,rfl,⟨CK,_,_,rfl,by simp only[List.length_drop];omega⟩,rfl⟩ ag))
    · intro aex
      refine go ?_
      refine aM ih (i+1,acc+c.toNat%128*2 ^ (7*i)) rfl ⟨by simp only;omega,by simp only;omega,fun _=>GM hac zv,by rw[lA,if_neg rO,if_neg ai]⟩ (by simp only;omega) bS ag)
def ew(A:HP)(v:Value)(bs:List UInt8):Prop:=Vw A v bs.length (bV bs)∧∃a c,v = .slice a bs.length c∧bs.length≤c
def ew.cut{c:Nat}(h:ew A (.slice a n c) bs)(p:Nat)(hp:p≤bs.length):ew A (.slice (sliceAt a c p 1) (bs.length-p) (c-p)) (bs.drop p):=by
 obtain⟨hv,a',c',he,hc⟩:=h
 simp only[Value.slice.injEq]at he
 obtain⟨rfl,rfl,rfl⟩:=he
 refine⟨?_,_,_,by rw[List.length_drop],by rw[List.length_drop];omega⟩
 have:=hv.JM (s:=1) (by rw[bD];omega) hc p hp
 rw[List.length_drop,show bV (bs.drop p)=(bV bs).drop (p*1)from by simp[bV,List.map_drop]]
 exact this
def ew.front{c:Nat}(h:ew A (.slice a n c) bs)(q:Nat)(hq:q≤bs.length):ew A (.slice (sliceAt a c 0 1) q c) (bs.take q):=by
 obtain⟨hv,a',c',he,hc⟩:=h
 simp only[Value.slice.injEq]at he
 obtain⟨rfl,rfl,rfl⟩:=he
 have hl:(bs.take q).length=q:=by rw[List.length_take];omega
 refine⟨?_,_,_,by rw[hl],by rw[hl];omega⟩
 have:=hv.acG (s:=1) q
 rw[hl,show bV (bs.take q)=(bV bs).take (q*1)from by simp[bV,List.map_take]]
 exact this
def ew.mono{B:HP}{v:Value}(h:ew A v bs)(hAB:∀h,B h→∃h',sub h' h∧A h'):ew B v bs:=⟨h.1.mono hAB,h.2⟩
theorem ew.piece{c:Nat}(h:ew A (.slice a n c) bs)(p q:Nat)(hp:p≤q)(hq:q≤bs.length):ew A (.slice (sliceAt a c p 1) (q-p) (c-p)) ((bs.drop p).take (q-p)):=by
 have h1:=h.cut p ai
 obtain⟨hv,a',c',he,hc⟩:=h1
 have hlen:((bs.drop p).take (q-p)).length=q-p:=by rw[List.length_take,List.length_drop];omega
 refine⟨?_,_,_,by rw[hlen],by rw[hlen];obtain⟨_,_,_,Hv,hc2⟩:=h;simp only[Value.slice.injEq]at Hv;omega⟩
 obtain⟨a2,A7,Hv,h0|⟨b,o,ha,hc2⟩⟩:=hv
 ·simp only[Value.slice.injEq]at Hv
  have:(bs.drop p)=[]:=by simpa[bV]using h0
  refine⟨_,_,by rw[hlen],.inl ?_⟩
  grind
 ·simp only[Value.slice.injEq]at Hv
  refine⟨_,_,by rw[hlen],.inr ⟨b,o,by rw[Hv.1,ha],fun h' hA j x hj=>?_⟩⟩
  grind [bV]
def ll(A:HP)(v:Value)(bs:List UInt8)(hv:ew A v bs)(hl:bs.length≤9223372036854775807) :
  au Tryz.prog 247 [v] [A] (fun r H=>r=(match cY bs with
   | some n => .tuple #[.int .u64 (n:Int),.int .i64 0]
   | none => .tuple #[.int .u64 0,.int .i64 2])∧H=[A]):=by
 refine au.ak Tryz.func247 Tryz.ntmps247 fun G F R hE=>?_
 refine go ?_
 refine aF (HF A v bs hv.1 hv.2 hl) ?_
 rintro _ _⟨rv,rfl,⟨CK,a,c,rfl,_⟩,rfl⟩
 cases nD:(cR bs).2.2 with
 | false =>
  have hn:cY bs=none:=by unfold cY;rw[if_neg (by rw[nD];simp)]
  rw[hn]at hE
  refine go ?_
  refine ad hE Tryz.func247 zr zr ⟨rfl,rfl⟩
 | true =>
  repeat'(first|(with_reducible intro jg)|refine er ?_|refine aq zr zr ?_ ?_)
  ·have hn:cY bs=none:=by unfold cY;rw[if_neg (fun h=>by rw[h.2]at jg;simp at jg)]
   rw[hn]at hE
   refine ad hE Tryz.func247 zr zr ⟨rfl,rfl⟩
  ·have hn:cY bs=some (cR bs).1:=by unfold cY;rw[if_pos ⟨nD,List.eq_nil_of_length_eq_zero ai⟩]
   rw[hn]at hE
   refine ad hE Tryz.func247 zr zr ⟨rfl,rfl⟩
def cQ(bs:List UInt8):List UInt8:=uv bs.length++bs
end Go.Proofs.YtlcoaflddajjcaaGreatDoor
namespace Go.Proofs.YtlcoaflddajjcaaGreatDoor
open Go Go.SL
theorem GO{e:TypeId}{v:Value}{bs:List UInt8}(h0:∃h,aB e 1 v bs.length (bV bs) h):ew (aB e 1 v bs.length (bV bs)) v bs:=by
 refine⟨Vw.l7 e 1 v bs.length (bV bs) h0,?_⟩
 obtain⟨h,hl,⟨a,rfl,hn,_⟩|⟨b,o,cap,pre,junk,rfl,hp,hn,hc,_⟩⟩:=h0
 ·simp_all
 grind
section
variable{P:Program}{f:FuncId}{n:Nat}{R:Ending→World→Prop}{G:ct}{k:List Item}{L:eH}{H:List HP}{S:World→Prop}{all:Array Oper}{rest:Pl}
def eZ{e:TypeId}{v:Value}{bs:List UInt8}(i:Nat)(hi:bZ H i=some (aB e 1 v bs.length (bV bs)))(h:ew (aB e 1 v bs.length (bV bs)) v bs→J P f n R G S all rest k L H):J P f n R G S all rest k L H :=
 xL fun w hw=>by
  obtain⟨h1,_,hA⟩:=hw.jF hi
  exact h (GO ⟨h1,hA⟩)
def qP{e:TypeId}{v:Value}{bs:List UInt8}(i:Nat)(hi:bZ H i=some (aB e 1 v bs.length (bV bs)))(h:ew (aB e 1 v bs.length (bV bs)) v bs→K P f n R G k L H):K P f n R G k L H :=
 pn fun⟨w,hw⟩=>by
  obtain⟨h1,_,hA⟩:=hw.jF hi
  exact h (GO ⟨h1,hA⟩)
end
theorem bn{H:List HP}{i:Nat}{A:HP}(hi:bZ H i=some A):∀h,Sep H h→∃h',sub h' h∧A h':=fun h hs=>by
 rw[dm]at hi
 obtain⟨h',QN,hA⟩:=ao.perm (cN hi) h hs
 obtain⟨h1,h2,ha,_,hd,hj⟩:=hA
 refine⟨h1,fun b o hb=>?_,ha⟩
 refine QN b o ?_
 grind
end Go.Proofs.YtlcoaflddajjcaaGreatDoor
namespace Go.Proofs.YtlcoaflddajjcaaGreatDoor
open Go Go.SL
def ptr(f:Nat):Value := .pointer (some ⟨f,0,none⟩)
attribute [local irreducible] J K au Ends ae aB aI bB aW aS a7 aX bF
def Lx(n:Nat)(h1:1≤n)(h2:n≤31):IntKind.u64.wrap ((BitVec.ofInt IntKind.u64.bits (IntKind.u64.wrap (-(n:Int))) &&& BitVec.ofInt IntKind.u64.bits 31).toNat:Int)=((32-n:Nat):Int):=by
 have:∀n:Nat,n<32→1≤n→IntKind.u64.wrap ((BitVec.ofInt 64 (IntKind.u64.wrap (-(n:Int))) &&& BitVec.ofInt 64 31).toNat:Int)=((32-n:Nat):Int):=by decide
 exact this n ai h1
def tR(x:iu)(n:Nat)(h1:1≤n)(h2:n≤31):au Tryz.prog 416 [u32 x,.int .i64 (-(n:Int))] [] (fun r H=>r=u32 (Sha.sH x n)∧H=[]):=by
 unfold u32
 refine au.ak Tryz.func416 Tryz.ntmps416 fun G F R hE=>?_
 refine go ?_
 refine ed ?_
 refine gR zr zr zr zr zr zr ?_
 refine oe ?_
 refine bq 5 ((.int .u64 ((32-n:Nat):Int))) rfl ((congrArg (Value.int .u64) (Lx n h1 h2))) (go ?_)
 refine Gl (32-n) zr zr zr zr ai ?_
 (repeat(first|refine er ?_|refine pq n zr zr zr ai ai ?_|refine DJ zr zr zr ?_))
 refine ad hE Tryz.func416 zr zr ⟨rfl,rfl⟩
def gZ(x:iu)(n:Nat)(h1:1≤n)(h2:n≤31):au Tryz.prog 334 [u32 x,.int .i64 (n:Int)] [] (fun r H=>r=u32 (Sha.sH x n)∧H=[]):=by
 refine au.ak Tryz.func334 Tryz.ntmps334 fun G F R hE=>?_
 refine go ?_
 refine Z1 zr zr (by simp only[fz];omega) ?_
 refine aw (tR x n h1 h2) ?_
 refine go ?_
 refine ad hE Tryz.func334 zr zr ⟨rfl,rfl⟩
theorem Er(A:HP)(v:Value)(b:List UInt8)(hv:ew A v b)(Na:64≤b.length) :
  au Tryz.prog 333 [v] [A] (fun r H=>r = .agg (wV (Sha.sched b 64)).toArray∧H=[A]):=by
 obtain⟨a,c,rfl,hc⟩:=hv.2
 have hf:=hv.front 64 Na
 refine au.ak Tryz.func333 Tryz.ntmps333 fun G F R hE=>?_
 refine aD rfl ?_
 refine az zr zr zr bh ?_
 intro b2
 refine oe ?_
 (refine aD rfl ?_;refine oe ?_)
 refine az zr zr zr bh ?_
 intro b3
 refine go ?_
 refine bw (p:=0) (q:=64) zr zr zr zr zr zr zr ai ai (.inr ai) ?_
 refine aG 10 ((.slice (sliceAt a c 0 1) 64 c)) rfl (rfl) (go ?_)
 refine bj (fun i:Nat=>i≤64) (fun i=>64-i)
  (fun i=>[(2,ptr b2),(3,ptr b3),(10,.slice (sliceAt a c 0 1) 64 c),(11,.int .i64 64),(12,.int .i64 (i:Int))])
  (fun i=>ae b3 (cl (wV (Sha.lO b i)) 337)::ae b2 (cl (wV (List.replicate 64 0)) 337)::A::F) 0 (Nat.zero_le _) rfl bS (by rw[Sha.FJ];exact ag) ?_
 rintro i hi ih
 refine go ?_
 refine aq zr zr ?_ ?_
 ·intro cL
  have KL:i<64:=by omega
  obtain⟨x,hx⟩:∃x,b[i]?=some x:=⟨b[i]' ai,by simp⟩
  have hxd:b.getD i 0=x:=by rw[List.getD_eq_getElem?_getD,hx];rfl
  have CG:(bV (b.take 64))[i]?=some (u8 x):=by
   grind [tO]
  obtain⟨bb,oo,cc,dL⟩:=hf.1.some (by intro e;rw[e]at CG;simp at CG)
  simp only[Value.slice.injEq,true_and]at dL
  obtain⟨dL,-,rfl⟩:=dL
  have hlen:(b.take 64).length=64:=by rw[List.length_take];omega
  have hf2:=hf.1
  rw[dL,hlen]at hf2
  rw[dL]
  refine go ?_
  refine bp i zr zr zr zr zr zr zr zr KL ?_
  refine aP ?_
  refine aQ 2 i zr zr zr hf2 rfl CG zr zr (go ?_)
  refine aL (fun w=>Sat G w ([ae b3 (cl (wV (Sha.lO b i)) 337)])) (cJ 0 13 (.act 13 .nil)) rfl ah ah ah dv ?_
  refine go ?_
  have hg:=Sha.kL b i (i/4) ai
  have hq:(i:Int)/4=((i/4:Nat):Int):=by omega
  have hr:24-8*((i:Int)%4)=((24-8*(i%4):Nat):Int):=by omega
  have aeT:(wV (Sha.lO b i)).length=64:=by rw[jX,Sha.kK]
  (repeat(first|refine er ?_|refine mT zr zr zr ai ai (by simp only[fz];omega) ?_|refine lT zr zr zr ai ai ?_|refine eN zr zr zr (by simp only[fz];omega) ?_|refine dI (U:=aU) (i/4) zr zr zr zr zr zr zr hq ai ?_|(refine aP ?_;refine eb (U:=aU) 0 (i/4) zr zr zr (Nat.zero_add _) (gp hg) zr zr ?_)|(refine ed ?_;refine po (U:=aU) zr zr zr zr zr zr ?_)|refine Gl (24-8*(i%4)) zr zr zr hr ai ?_|refine DJ zr zr zr ?_))
  refine aY ?_
  refine fO (U:=aU) 0 e8 zr zr zr zr zr zr zr (by rw[jX,Sha.kK];omega) rfl ?_
  rw[show 0+i/4=i/4 from Nat.zero_add _]
  refine go ?_
  have dK:=Sha.FK b i KL
  rw[hxd]at dK
  have iW:(wV (Sha.lO b i)).set (i/4) (.int .u32 (((Sha.part b (i/4) (min 4 (i-4*(i/4))) ||| wB x <<< (24-8*(i%4))).toNat:Nat):Int))=wV (Sha.lO b (i+1)):=by
   rw[← dK,show min 4 (i-4*(i/4))=i%4 from by omega]
   exact vr _ _ _
  rw[iW,← dL]
  refine aM ih (i+1) rfl ai ai bS ag
 intro ep
 have Jq:i=64:=by omega
 subst Jq
 clear ih
 refine go ?_
 refine bj (fun t:Nat=>16≤t∧t≤64) (fun t=>64-t)
  (fun t=>[(2,ptr b2),(3,ptr b3),(6,.int .i64 (t:Int))])
  (fun t=>ae b3 (cl (wV (Sha.dZ b t)) 337)::ae b2 (cl (wV (List.replicate 64 0)) 337)::A::F) 16 ⟨ai,ai⟩ rfl bS (by rw[Sha.JK];exact ag) ?_
 rintro t⟨AS,ht2⟩ ih
 have hlen:=Sha.qs b t ht2
 refine go ?_
 refine aq zr zr ?_ ?_
 ·intro cL
  have ht:t<64:=by omega
  have g2:=Sha.gr b t (t-2) ai
  have g7:=Sha.gr b t (t-7) ai
  have g15:=Sha.gr b t (t-15) ai
  have g16:=Sha.gr b t (t-16) ai
  refine go ?_
  refine aL (fun w=>Sat G w ([ae b3 (cl (wV (Sha.dZ b t)) 337)])) (cJ 0 10 .nil) rfl ah ah ah dv ?_
  refine go ?_
  (repeat(first|refine er ?_|refine dI (U:=aU) (t-2) zr zr zr zr zr zr zr ai ai ?_|refine dI (U:=aU) (t-15) zr zr zr zr zr zr zr ai ai ?_|(refine aP ?_;first|refine eb (U:=aU) 0 (t-2) zr zr zr (Nat.zero_add _) (gp g2) zr zr ?_|refine eb (U:=aU) 0 (t-15) zr zr zr (Nat.zero_add _) (gp g15) zr zr ?_)))
  refine aw (gZ _ 17 ai ai) ?_
  refine go ?_
  refine aw (gZ _ 19 ai ai) ?_
  (repeat(first|refine er ?_|refine gX zr zr zr ?_|refine pq 10 zr zr zr zr ai ?_))
  refine aw (gZ _ 7 ai ai) ?_
  refine go ?_
  refine aw (gZ _ 18 ai ai) ?_
  (repeat(first|refine er ?_|refine gX zr zr zr ?_|refine pq 3 zr zr zr zr ai ?_))
  refine aL (fun w=>Sat G w ([ae b3 (cl (wV (Sha.dZ b t)) 337)])) (cJ 0 15 (.act 15 .nil)) rfl ah ah ah dv ?_
  refine go ?_
  (repeat(first|refine er ?_|refine dI (U:=aU) (t-16) zr zr zr zr zr zr zr ai ai ?_|refine dI (U:=aU) (t-7) zr zr zr zr zr zr zr ai ai ?_|refine dI (U:=aU) t zr zr zr zr zr zr zr zr ht ?_|(refine aP ?_;first|refine eb (U:=aU) 0 (t-16) zr zr zr (Nat.zero_add _) (gp g16) zr zr ?_|refine eb (U:=aU) 0 (t-7) zr zr zr (Nat.zero_add _) (gp g7) zr zr ?_)|refine jj zr zr zr ?_))
  refine aY ?_
  refine fO (U:=aU) 0 e8 zr zr zr zr zr zr zr (by rw[jX,hlen];omega) rfl ?_
  rw[show 0+t=t from Nat.zero_add _]
  refine go ?_
  have iW:=(vr (Sha.dZ b t) t _).trans (congrArg wV (Sha.ub b t AS ht))
  refine al (H':=ae b3 (cl (wV (Sha.dZ b (t+1))) 337)::ae b2 (cl (wV (List.replicate 64 0)) 337)::A::F) (by rw[← iW];exact ao.refl _) ?_
  refine aM ih (t+1) rfl ⟨ai,ai⟩ ai bS ag
 intro ep
 have Fo:t=64:=by omega
 subst Fo
 rw[Sha.vS]
 have wR:(wV (Sha.sched b 64)).length=64:=by rw[jX,Sha.dR]
 have eM:gF (wV (Sha.sched b 64))=true:=eF _
 generalize wV (Sha.sched b 64)=W at wR eM hE ⊢
 refine go ?_
 refine aO (U:=aU) 0 zr zr zr zr zr wR ?_
 refine cH (U:=aU) 1 e8 rfl rfl rfl wR (by intro e;rw[e]at wR;cases wR) eM rfl (by rw[wR];simp[jX]) rfl ?_
 refine go ?_
 refine iA (U:=aU) 1 hE Tryz.func333 zr zr zr zr zr wR rfl ⟨rfl,rfl⟩ ag
def pY(X:HP):Prop:=Vw X (.slice (some ⟨0,0,none⟩) 64 64) 64 (wV Sha.ks)
def pY.mono{A B:HP}(h:pY A)(hAB:∀h,B h→∃h',sub h' h∧A h'):pY B:=Vw.mono h hAB
def Ms{t:Nat}(h:t<64):Sha.ks[t]?=some (Sha.ks.getD t 0):=by
 rw[List.getD_eq_getElem?_getD,List.getElem?_eq_getElem (show t<Sha.ks.length from h)];rfl
def Of(s:Sha.St):Value := .agg (wV s.l).toArray
def BR(A:HP)(hK:pY A)(v:Value)(b:List UInt8)(hv:ew A v b)(Na:64≤b.length)(s:Sha.St) :
  au Tryz.prog 226 [Of s,v] [A] (fun r H=>r=Of (Sha.chunk s b)∧H=[A]):=by
 have Hc:=Er A v b hv Na
 obtain⟨a,c,rfl,hc⟩:=hv.2
 unfold pY at hK
 have ir:(Sha.sched b 64).length=64:=Sha.dR b 64
 have PG:Sha.chunk s b=Sha.plus s (Sha.rounds s (Sha.sched b 64) 64):=rfl
 rw[PG]
 generalize Sha.sched b 64=W at Hc ir ⊢
 obtain⟨s1,s2,s3,s4,s5,s6,s7,s8⟩:=s
 dsimp only [Of,Sha.St.l,wV,List.map_cons,List.map_nil]
 refine au.ak Tryz.func226 Tryz.ntmps226 fun G F R hE=>?_
 refine go ?_
 refine bu zr zr bh ?_
 intro b2
 refine go ?_
 refine az zr zr zr bh ?_
 intro b4
 refine go ?_
 refine aL (fun w=>Sat G w ([ae b2 (cl [u32 s1,u32 s2,u32 s3,u32 s4,u32 s5,u32 s6,u32 s7,u32 s8] 351)])) (cJ 0 24 .nil) rfl ah ah ah dv ?_
 refine go ?_
 (repeat(first|refine er ?_|refine gP zr zr zr zr zr zr ai ai ?_))
 refine aw Hc ?_
 refine go ?_
 generalize hs:(⟨s1,s2,s3,s4,s5,s6,s7,s8⟩:Sha.St)=s at hE
 refine bj (fun t:Nat=>t≤64) (fun t=>64-t)
  (fun t=>[(2,ptr b2),(4,ptr b4),(34,.agg (wV W).toArray),(35,.int .i64 (t:Int)),(5,u32 (Sha.rounds s W t).a),(6,u32 (Sha.rounds s W t).b),(7,u32 (Sha.rounds s W t).c),(8,u32 (Sha.rounds s W t).d),(9,u32 (Sha.rounds s W t).e),(10,u32 (Sha.rounds s W t).f),(11,u32 (Sha.rounds s W t).g),(12,u32 (Sha.rounds s W t).h)])
  (fun _=>ae b4 (cl (wV (List.replicate 8 0)) 351)::ae b2 (cl [u32 s1,u32 s2,u32 s3,u32 s4,u32 s5,u32 s6,u32 s7,u32 s8] 351)::A::F) 0 (Nat.zero_le _) rfl (by subst hs;repeat(first|exact CE|refine zn rfl ?_)) ag ?_
 rintro t ht ih
 refine go ?_
 refine aq zr zr ?_ ?_
 ·intro cL
  have AS:t<64:=by omega
  have hr:Sha.rounds s W (t+1)=Sha.round (Sha.rounds s W t) (Sha.ks.getD t 0) (W.getD t 0):=rfl
  generalize Sha.rounds s W t=T at hr ⊢
  obtain⟨ta,tb,tc,td,te,tf,tg,th⟩:=T
  have Pb:(wV W).toArray.toList[((t:Nat):Int).toNat]?=some (u32 (W.getD t 0)):=by
   rw[Int.toNat_natCast]
   exact gp (by rw[List.getD_eq_getElem?_getD,List.getElem?_eq_getElem ai];rfl)
  have hkg:=gp (Ms AS)
  generalize Sha.ks.getD t 0=kt at hr hkg
  generalize W.getD t 0=wt at hr Pb
  simp only
  refine go ?_
  refine fg zr zr zr zr zr zr zr zr ai ai Pb (go ?_)
  refine aL (fun w=>Sat G w ([A])) (.st 0 (.st 1 (.st 3 (.st 6 (cJ 10 7 (cJ 18 3 (.st 22 (.act 2 (.act 4 (.st 5 (.act 7 (.st 8 (.st 9 (.st 17 (.st 21 (.st 23 (.st 24 .nil))))))))))))))))) rfl ah ah ah dv ?_
  refine go ?_
  (repeat(first|refine er ?_|refine dI (U:=aU) t zr zr zr zr zr zr zr zr AS ?_|(refine aP ?_;refine cO 0 t zr zr zr hK rfl hkg zr zr ?_)|refine gX zr zr zr ?_|refine Bw zr zr zr ?_))
  refine bE ((gZ _ 6 ai ai)) ?_
  refine go ?_
  refine bE ((gZ _ 11 ai ai)) ?_
  refine go ?_
  (repeat((refine gX zr zr zr ?_)))
  refine bE ((gZ _ 25 ai ai)) ?_
  (repeat(first|refine er ?_|refine gX zr zr zr ?_|refine jj zr zr zr ?_))
  refine aw (gZ _ 2 ai ai) ?_
  refine go ?_
  refine aw (gZ _ 13 ai ai) ?_
  (repeat(first|refine er ?_|refine gX zr zr zr ?_))
  refine aw (gZ _ 22 ai ai) ?_
  (repeat(first|refine er ?_|refine gX zr zr zr ?_|refine Bw zr zr zr ?_|refine DJ zr zr zr ?_|refine jj zr zr zr ?_))
  ((refine bq 5 ((u32 (Sha.rounds s W (t+1)).a)) rfl ((by rw[hr];rfl)) ?_))
  ((refine bq 6 ((u32 (Sha.rounds s W (t+1)).b)) rfl ((by rw[hr];rfl)) ?_))
  ((refine bq 7 ((u32 (Sha.rounds s W (t+1)).c)) rfl ((by rw[hr];rfl)) ?_))
  ((refine bq 8 ((u32 (Sha.rounds s W (t+1)).d)) rfl ((by rw[hr];rfl)) ?_))
  ((refine bq 9 ((u32 (Sha.rounds s W (t+1)).e)) rfl ((by rw[hr];rfl)) ?_))
  ((refine bq 10 ((u32 (Sha.rounds s W (t+1)).f)) rfl ((by rw[hr];rfl)) ?_))
  ((refine bq 11 ((u32 (Sha.rounds s W (t+1)).g)) rfl ((by rw[hr];rfl)) ?_))
  ((refine bq 12 ((u32 (Sha.rounds s W (t+1)).h)) rfl ((by rw[hr];rfl)) ?_))
  refine aM ih (t+1) rfl ai ai bS ag
 intro ep
 have Fo:t=64:=by omega
 subst Fo
 have AT:Of (Sha.plus s (Sha.rounds s W 64)) = .agg (List.map u32 [(Sha.plus s (Sha.rounds s W 64)).a,(Sha.plus s (Sha.rounds s W 64)).b,(Sha.plus s (Sha.rounds s W 64)).c,(Sha.plus s (Sha.rounds s W 64)).d,(Sha.plus s (Sha.rounds s W 64)).e,(Sha.plus s (Sha.rounds s W 64)).f,(Sha.plus s (Sha.rounds s W 64)).g,(Sha.plus s (Sha.rounds s W 64)).h]).toArray:=rfl
 rw[← AT]at hE
 clear AT PG ih
 generalize Sha.rounds s W 64=T at hE ⊢
 obtain⟨ta,tb,tc,td,te,tf,tg,th⟩:=T
 subst hs
 simp only
 refine go ?_
 (repeat(first|refine er ?_|refine gP zr zr zr zr zr zr ai ai ?_|refine jj zr zr zr ?_))
 refine iC (U:=aU) zr zr zr zr zr zr (go ?_)
 refine iA (U:=aU) 0 hE Tryz.func226 zr zr zr zr zr zr zr ⟨rfl,rfl⟩ ag
end Go.Proofs.YtlcoaflddajjcaaGreatDoor
namespace Go.SL
open Go
def dV(x:Dg):Value := .agg (dC x).toArray
theorem ZJ{a b:Dg}(h:dV a=dV b):a=b:=by
 grind [dV,ZK]
section
variable{P:Program}
theorem P8{kt e:TypeId}(hu:P.underlying kt=some (.array 32 e))(he:P.underlying e=some (.int .u8))(hc:P.cellsOf e=1)(em:Bool)(k:Dg)(w:World):(Instr.checkKey em 10000 kt (dV k)).run P w = .ok () w:=by
 obtain⟨i,hi⟩:=info_of_underlying he
 have Pm:P.plainKey e=true:=by unfold Program.plainKey;rw[he]
 have iJ:(sizeOf e).run P w = .ok 1 w:=by
  rw[Go.run_sizeOf w hi];congr 1
 rw[show(10000:Nat)=9999+1 from rfl,Instr.checkKey]
 simp only[Sem.run_bind,Go.run_underlying hu,Result.andThen_ok,dV]
 simp only[Std.Legacy.Range.forIn_eq_forIn_range',Std.Legacy.Range.size,Nat.sub_zero,Nat.add_one_sub_one,Nat.div_one]
 have each:∀j∈List.range' 0 32,j<32:=fun j hj=>by simp[List.mem_range']at hj;omega
 generalize List.range' 0 32=is at each
 induction is with
 | nil=>simp
 | cons j is ih =>
  have hj:=each j (by simp)
  have dt:(dC k).toArray[j*1]?=some (u8 (k.at j)):=by
   rw[Nat.mul_one,dW]
   simp only[List.getElem?_toArray]
   rw[show bV k.bs=k.bs.map u8 from rfl,List.getElem?_map,List.getElem?_eq_getElem (by rw[k.len];exact hj)]
   grind [Dg.at]
  have p1:(part e (dC k).toArray (j*1)).run P w = .ok (u8 (k.at j)) w:=run_part_plain w Pm dt
  have p2:(Instr.checkKey em 9999 e (u8 (k.at j))).run P w = .ok () w:=by
   rw[show(9999:Nat)=9998+1 from rfl,Instr.checkKey]
   simp[Go.run_underlying he,u8]
  simp_all
def B4{kt e:TypeId}(hu:P.underlying kt=some (.array 32 e))(he:P.underlying e=some (.int .u8))(hc:P.cellsOf e=1)(a b:Dg)(w:World):(Op.equal kt (dV a) (dV b)).run P w = .ok (decide (a=b)) w :=
 ng hu he hc a b 9998 w
theorem abE{kt e:TypeId}(hu:P.underlying kt=some (.array 32 e))(he:P.underlying e=some (.int .u8))(hc:P.cellsOf e=1):jv P kt dV where
 inj _ _:=ZJ
 check em k w:=P8 hu he hc em k w
 find k l ks w h:=by
  rw[run_findKey_eq (w:=w) (by rw[hu])]
  have key:∀(l:List MapEntry) (ks:List Dg) (o:Nat),l.map (·.key)=ks.map dV →
    ∃r,(Instr.findAsking kt (dV k) l o).run P w = .ok r w∧((r=none∧k ∉ ks)∨∃i e,r=some (o+i,e.val)∧l[i]?=some e∧ks[i]?=some k∧∀j,j<i→ks[j]? ≠ some k):=by
   intro l
   induction l with
   | nil =>
    intro ks o h
    have:ks=[]:=by simpa using h.symm
    subst this
    exact⟨none,by simp[Instr.findAsking],.inl ⟨rfl,by simp⟩⟩
   | cons en l ih =>
    intro ks o h
    cases ks with
    | nil=>simp at h
    | cons c ks =>
     simp only[List.map_cons,List.cons.injEq]at h
     obtain⟨h1,h2⟩:=h
     have hq:(Op.equal kt (dV k) en.key).run P w = .ok (decide (k=c)) w:=by rw[h1];exact B4 hu he hc k c w
     by_cases MU:k=c
     ·subst MU
      refine⟨some (o+0,en.val),by simp[Instr.findAsking,hq],.inr ⟨0,en,rfl,by simp,by simp,fun j hj=>absurd hj ai⟩⟩
     ·obtain⟨r,hr,ig⟩:=ih ks (o+1) h2
      refine⟨r,by simp[Instr.findAsking,hq,MU,hr],?_⟩
      rcases ig with⟨rfl,hn⟩|⟨i,e',rfl,hi,hk,hj⟩
      ·grind
      ·refine .inr ⟨i+1,e',by congr 2;omega,by simpa using hi,by simpa using hk,fun j p8=>?_⟩
       cases j with
       | zero=>simp;exact fun h=>MU h.symm
       | succ j=>simpa using hj j ai
  obtain⟨r,hr,ig⟩:=key l ks 0 h
  grind
 bits k:=by
  rw[show(10000:Nat)=9999+1 from rfl]
  simp only[dV,Instr.sameBits,beq_self_eq_true,Bool.true_and,List.all_eq_true]
  have:∀(l:List UInt8),∀x∈((bV l).zip (bV l)),Instr.sameBits 9999 x.1 x.2=true:=by
   intro l
   induction l with
   | nil=>simp[bV]
   | cons c l ih =>
    intro x hx
    simp only[bV,List.map_cons,List.zip_cons_cons,List.mem_cons]at hx
    rcases hx with rfl|hx
    ·simp[u8,Instr.sameBits]
    ·exact ih x hx
  grind [dW]
end
end Go.SL
