import Derived.Test.YtedjnjkijiddlaaGreatDoorQPT3
import Derived.Test.YtedjnjkijiddlaaGreatDoorProg
set_option linter.defProp false
set_option linter.unusedSimpArgs false
set_option linter.unusedVariables false
set_option linter.defProp false
namespace Go.Proofs.YtedjnjkijiddlaaGreatDoor
open Go.SL
def TP(i:TypeId)(a b:TypeInfo):Prop:=Tryz.prog.underlying i=some a.desc∧Tryz.prog.info? i=some b
def acH:TP 1 Tryz.t1 Tryz.t1:=⟨ak,ak⟩
def acG:TP 2 Tryz.t2 Tryz.t2:=⟨ak,ak⟩
def acF:TP 3 Tryz.t3 Tryz.t3:=⟨ak,ak⟩
def acE:TP 4 Tryz.t4 Tryz.t4:=⟨ak,ak⟩
def acD:TP 5 Tryz.t5 Tryz.t5:=⟨ak,ak⟩
def acC:TP 6 Tryz.t5 Tryz.t6:=⟨ak,ak⟩
def acB:TP 7 Tryz.t7 Tryz.t7:=⟨ak,ak⟩
def acA:TP 8 Tryz.t7 Tryz.t8:=⟨ak,ak⟩
def acz:TP 9 Tryz.t9 Tryz.t9:=⟨ak,ak⟩
def aaQ:TP 10 Tryz.t9 Tryz.t10:=⟨ak,ak⟩
def aaP:TP 11 Tryz.t9 Tryz.t11:=⟨ak,ak⟩
def aaO:TP 12 Tryz.t12 Tryz.t12:=⟨ak,ak⟩
def aaN:TP 13 Tryz.t13 Tryz.t13:=⟨ak,ak⟩
def aaM:TP 14 Tryz.t13 Tryz.t14:=⟨ak,ak⟩
def aaL:TP 15 Tryz.t15 Tryz.t15:=⟨ak,ak⟩
def aaK:TP 16 Tryz.t16 Tryz.t16:=⟨ak,ak⟩
def aaJ:TP 17 Tryz.t17 Tryz.t17:=⟨ak,ak⟩
def aaI:TP 18 Tryz.t18 Tryz.t18:=⟨ak,ak⟩
def aaH:TP 19 Tryz.t18 Tryz.t19:=⟨ak,ak⟩
def aaG:TP 20 Tryz.t20 Tryz.t20:=⟨ak,ak⟩
def aaF:TP 21 Tryz.t21 Tryz.t21:=⟨ak,ak⟩
def aaE:TP 22 Tryz.t22 Tryz.t22:=⟨ak,ak⟩
def aaD:TP 23 Tryz.t23 Tryz.t23:=⟨ak,ak⟩
def aaC:TP 24 Tryz.t24 Tryz.t24:=⟨ak,ak⟩
def aaB:TP 25 Tryz.t3 Tryz.t25:=⟨ak,ak⟩
def aaA:TP 27 Tryz.t27 Tryz.t27:=⟨ak,ak⟩
def aaz:TP 28 Tryz.t28 Tryz.t28:=⟨ak,ak⟩
def aay:TP 29 Tryz.t29 Tryz.t29:=⟨ak,ak⟩
def aax:TP 30 Tryz.t30 Tryz.t30:=⟨ak,ak⟩
def aaw:TP 31 Tryz.t31 Tryz.t31:=⟨ak,ak⟩
def aav:TP 32 Tryz.t31 Tryz.t32:=⟨ak,ak⟩
def aau:TP 33 Tryz.t33 Tryz.t33:=⟨ak,ak⟩
def aat:TP 34 Tryz.t34 Tryz.t34:=⟨ak,ak⟩
def aas:TP 35 Tryz.t34 Tryz.t35:=⟨ak,ak⟩
def aar:TP 36 Tryz.t36 Tryz.t36:=⟨ak,ak⟩
def aaq:TP 37 Tryz.t36 Tryz.t37:=⟨ak,ak⟩
def aap:TP 39 Tryz.t39 Tryz.t39:=⟨ak,ak⟩
def aao:TP 40 Tryz.t40 Tryz.t40:=⟨ak,ak⟩
def aan:TP 41 Tryz.t41 Tryz.t41:=⟨ak,ak⟩
def aam:TP 42 Tryz.t42 Tryz.t42:=⟨ak,ak⟩
def aal:TP 44 Tryz.t44 Tryz.t44:=⟨ak,ak⟩
def aak:TP 45 Tryz.t45 Tryz.t45:=⟨ak,ak⟩
def aaj:TP 46 Tryz.t45 Tryz.t46:=⟨ak,ak⟩
def aai:TP 47 Tryz.t47 Tryz.t47:=⟨ak,ak⟩
def aah:TP 48 Tryz.t48 Tryz.t48:=⟨ak,ak⟩
def aag:TP 49 Tryz.t49 Tryz.t49:=⟨ak,ak⟩
def aaf:TP 50 Tryz.t50 Tryz.t50:=⟨ak,ak⟩
def aae:TP 51 Tryz.t51 Tryz.t51:=⟨ak,ak⟩
def aad:TP 52 Tryz.t52 Tryz.t52:=⟨ak,ak⟩
def aac:TP 53 Tryz.t53 Tryz.t53:=⟨ak,ak⟩
def aab:TP 54 Tryz.t54 Tryz.t54:=⟨ak,ak⟩
def aaa:TP 56 Tryz.t56 Tryz.t56:=⟨ak,ak⟩
def Z':TP 57 Tryz.t57 Tryz.t57:=⟨ak,ak⟩
def Z9:TP 58 Tryz.t58 Tryz.t58:=⟨ak,ak⟩
def Z8:TP 60 Tryz.t60 Tryz.t60:=⟨ak,ak⟩
def Z7:TP 62 Tryz.t62 Tryz.t62:=⟨ak,ak⟩
def Z6:TP 64 Tryz.t64 Tryz.t64:=⟨ak,ak⟩
def Z5:TP 65 Tryz.t65 Tryz.t65:=⟨ak,ak⟩
def Z4:TP 66 Tryz.t66 Tryz.t66:=⟨ak,ak⟩
def Z3:TP 67 Tryz.t67 Tryz.t67:=⟨ak,ak⟩
def Z1:TP 68 Tryz.t68 Tryz.t68:=⟨ak,ak⟩
def ZZ:TP 69 Tryz.t69 Tryz.t69:=⟨ak,ak⟩
def ZY:TP 70 Tryz.t70 Tryz.t70:=⟨ak,ak⟩
def ZX:TP 71 Tryz.t71 Tryz.t71:=⟨ak,ak⟩
def ZW:TP 72 Tryz.t71 Tryz.t72:=⟨ak,ak⟩
def ZV:TP 73 Tryz.t73 Tryz.t73:=⟨ak,ak⟩
def ZU:TP 74 Tryz.t74 Tryz.t74:=⟨ak,ak⟩
def ZT:TP 75 Tryz.t75 Tryz.t75:=⟨ak,ak⟩
def ZS:TP 76 Tryz.t75 Tryz.t76:=⟨ak,ak⟩
def ZR:TP 78 Tryz.t78 Tryz.t78:=⟨ak,ak⟩
def ZQ:TP 80 Tryz.t80 Tryz.t80:=⟨ak,ak⟩
def ZP:TP 82 Tryz.t82 Tryz.t82:=⟨ak,ak⟩
def ZO:TP 83 Tryz.t83 Tryz.t83:=⟨ak,ak⟩
def ZN:TP 84 Tryz.t84 Tryz.t84:=⟨ak,ak⟩
def ZM:TP 85 Tryz.t85 Tryz.t85:=⟨ak,ak⟩
def ZL:TP 86 Tryz.t86 Tryz.t86:=⟨ak,ak⟩
def ZK:TP 87 Tryz.t87 Tryz.t87:=⟨ak,ak⟩
def ZJ:TP 88 Tryz.t87 Tryz.t88:=⟨ak,ak⟩
def ZI:TP 89 Tryz.t89 Tryz.t89:=⟨ak,ak⟩
def ZH:TP 90 Tryz.t90 Tryz.t90:=⟨ak,ak⟩
def ZG:TP 91 Tryz.t91 Tryz.t91:=⟨ak,ak⟩
def ZF:TP 92 Tryz.t92 Tryz.t92:=⟨ak,ak⟩
def ZE:TP 93 Tryz.t92 Tryz.t93:=⟨ak,ak⟩
def ZD:TP 94 Tryz.t94 Tryz.t94:=⟨ak,ak⟩
def ZC:TP 95 Tryz.t95 Tryz.t95:=⟨ak,ak⟩
def ZB:TP 96 Tryz.t96 Tryz.t96:=⟨ak,ak⟩
def ZA:TP 97 Tryz.t97 Tryz.t97:=⟨ak,ak⟩
def Zz:TP 98 Tryz.t98 Tryz.t98:=⟨ak,ak⟩
def Zy:TP 99 Tryz.t99 Tryz.t99:=⟨ak,ak⟩
def WZ:TP 100 Tryz.t100 Tryz.t100:=⟨ak,ak⟩
def WY:TP 101 Tryz.t101 Tryz.t101:=⟨ak,ak⟩
def WX:TP 102 Tryz.t102 Tryz.t102:=⟨ak,ak⟩
def WW:TP 103 Tryz.t103 Tryz.t103:=⟨ak,ak⟩
def WV:TP 104 Tryz.t104 Tryz.t104:=⟨ak,ak⟩
def WU:TP 105 Tryz.t105 Tryz.t105:=⟨ak,ak⟩
def WT:TP 106 Tryz.t106 Tryz.t106:=⟨ak,ak⟩
def WS:TP 107 Tryz.t107 Tryz.t107:=⟨ak,ak⟩
def WR:TP 108 Tryz.t108 Tryz.t108:=⟨ak,ak⟩
def WQ:TP 109 Tryz.t108 Tryz.t109:=⟨ak,ak⟩
def WO:TP 110 Tryz.t110 Tryz.t110:=⟨ak,ak⟩
def WN:TP 111 Tryz.t111 Tryz.t111:=⟨ak,ak⟩
def WM:TP 112 Tryz.t112 Tryz.t112:=⟨ak,ak⟩
def WL:TP 113 Tryz.t112 Tryz.t113:=⟨ak,ak⟩
def WK:TP 114 Tryz.t114 Tryz.t114:=⟨ak,ak⟩
def WJ:TP 115 Tryz.t115 Tryz.t115:=⟨ak,ak⟩
def WI:TP 116 Tryz.t116 Tryz.t116:=⟨ak,ak⟩
def WH:TP 117 Tryz.t116 Tryz.t117:=⟨ak,ak⟩
def WG:TP 118 Tryz.t118 Tryz.t118:=⟨ak,ak⟩
def WE:TP 119 Tryz.t119 Tryz.t119:=⟨ak,ak⟩
def WD:TP 120 Tryz.t120 Tryz.t120:=⟨ak,ak⟩
def WC:TP 121 Tryz.t121 Tryz.t121:=⟨ak,ak⟩
def WB:TP 122 Tryz.t122 Tryz.t122:=⟨ak,ak⟩
def WA:TP 123 Tryz.t122 Tryz.t123:=⟨ak,ak⟩
def Wz:TP 124 Tryz.t124 Tryz.t124:=⟨ak,ak⟩
def Wy:TP 125 Tryz.t125 Tryz.t125:=⟨ak,ak⟩
def Wx:TP 126 Tryz.t126 Tryz.t126:=⟨ak,ak⟩
def Ww:TP 127 Tryz.t127 Tryz.t127:=⟨ak,ak⟩
def Wv:TP 128 Tryz.t128 Tryz.t128:=⟨ak,ak⟩
def Wu:TP 129 Tryz.t128 Tryz.t129:=⟨ak,ak⟩
def Wt:TP 130 Tryz.t130 Tryz.t130:=⟨ak,ak⟩
def Ws:TP 131 Tryz.t131 Tryz.t131:=⟨ak,ak⟩
def Wr:TP 132 Tryz.t132 Tryz.t132:=⟨ak,ak⟩
def Wq:TP 133 Tryz.t133 Tryz.t133:=⟨ak,ak⟩
def Wp:TP 135 Tryz.t135 Tryz.t135:=⟨ak,ak⟩
def Wo:TP 136 Tryz.t136 Tryz.t136:=⟨ak,ak⟩
def Wn:TP 137 Tryz.t137 Tryz.t137:=⟨ak,ak⟩
def Wm:TP 138 Tryz.t138 Tryz.t138:=⟨ak,ak⟩
def Wl:TP 139 Tryz.t139 Tryz.t139:=⟨ak,ak⟩
def Wk:TP 140 Tryz.t140 Tryz.t140:=⟨ak,ak⟩
def Wj:TP 141 Tryz.t141 Tryz.t141:=⟨ak,ak⟩
def Wi:TP 142 Tryz.t142 Tryz.t142:=⟨ak,ak⟩
def Wh:TP 143 Tryz.t143 Tryz.t143:=⟨ak,ak⟩
def Wg:TP 144 Tryz.t144 Tryz.t144:=⟨ak,ak⟩
def Wf:TP 146 Tryz.t146 Tryz.t146:=⟨ak,ak⟩
def We:TP 147 Tryz.t147 Tryz.t147:=⟨ak,ak⟩
def Wd:TP 148 Tryz.t148 Tryz.t148:=⟨ak,ak⟩
def Wc:TP 149 Tryz.t149 Tryz.t149:=⟨ak,ak⟩
def Wb:TP 150 Tryz.t150 Tryz.t150:=⟨ak,ak⟩
def Wa:TP 151 Tryz.t151 Tryz.t151:=⟨ak,ak⟩
def V':TP 152 Tryz.t152 Tryz.t152:=⟨ak,ak⟩
def V9:TP 153 Tryz.t153 Tryz.t153:=⟨ak,ak⟩
def V8:TP 154 Tryz.t154 Tryz.t154:=⟨ak,ak⟩
def V7:TP 155 Tryz.t155 Tryz.t155:=⟨ak,ak⟩
def V6:TP 157 Tryz.t157 Tryz.t157:=⟨ak,ak⟩
def V5:TP 158 Tryz.t158 Tryz.t158:=⟨ak,ak⟩
def V4:TP 159 Tryz.t159 Tryz.t159:=⟨ak,ak⟩
def V3:TP 160 Tryz.t160 Tryz.t160:=⟨ak,ak⟩
def V2:TP 161 Tryz.t161 Tryz.t161:=⟨ak,ak⟩
def V1:TP 162 Tryz.t162 Tryz.t162:=⟨ak,ak⟩
def V0:TP 163 Tryz.t163 Tryz.t163:=⟨ak,ak⟩
def VZ:TP 164 Tryz.t164 Tryz.t164:=⟨ak,ak⟩
def VY:TP 166 Tryz.t166 Tryz.t166:=⟨ak,ak⟩
def VX:TP 167 Tryz.t167 Tryz.t167:=⟨ak,ak⟩
def VW:TP 168 Tryz.t168 Tryz.t168:=⟨ak,ak⟩
def VV:TP 169 Tryz.t168 Tryz.t169:=⟨ak,ak⟩
def VU:TP 170 Tryz.t170 Tryz.t170:=⟨ak,ak⟩
def VT:TP 172 Tryz.t172 Tryz.t172:=⟨ak,ak⟩
def VS:TP 173 Tryz.t173 Tryz.t173:=⟨ak,ak⟩
def VR:TP 174 Tryz.t173 Tryz.t174:=⟨ak,ak⟩
def VQ:TP 176 Tryz.t176 Tryz.t176:=⟨ak,ak⟩
def VP:TP 178 Tryz.t178 Tryz.t178:=⟨ak,ak⟩
def VO:TP 179 Tryz.t179 Tryz.t179:=⟨ak,ak⟩
def VN:TP 180 Tryz.t180 Tryz.t180:=⟨ak,ak⟩
def VM:TP 181 Tryz.t181 Tryz.t181:=⟨ak,ak⟩
def VL:TP 182 Tryz.t182 Tryz.t182:=⟨ak,ak⟩
def VK:TP 183 Tryz.t182 Tryz.t183:=⟨ak,ak⟩
def VJ:TP 184 Tryz.t184 Tryz.t184:=⟨ak,ak⟩
def VI:TP 185 Tryz.t185 Tryz.t185:=⟨ak,ak⟩
def VH:TP 186 Tryz.t185 Tryz.t186:=⟨ak,ak⟩
def VG:TP 188 Tryz.t188 Tryz.t188:=⟨ak,ak⟩
def VF:TP 190 Tryz.t190 Tryz.t190:=⟨ak,ak⟩
def VE:TP 191 Tryz.t191 Tryz.t191:=⟨ak,ak⟩
def VD:TP 192 Tryz.t192 Tryz.t192:=⟨ak,ak⟩
def VC:TP 193 Tryz.t193 Tryz.t193:=⟨ak,ak⟩
def VB:TP 194 Tryz.t194 Tryz.t194:=⟨ak,ak⟩
def VA:TP 195 Tryz.t195 Tryz.t195:=⟨ak,ak⟩
def Vz:TP 196 Tryz.t196 Tryz.t196:=⟨ak,ak⟩
def Vy:TP 197 Tryz.t197 Tryz.t197:=⟨ak,ak⟩
def Vx:TP 198 Tryz.t198 Tryz.t198:=⟨ak,ak⟩
def Vv:TP 199 Tryz.t199 Tryz.t199:=⟨ak,ak⟩
def Vu:TP 200 Tryz.t200 Tryz.t200:=⟨ak,ak⟩
def Vt:TP 201 Tryz.t201 Tryz.t201:=⟨ak,ak⟩
def Vs:TP 202 Tryz.t202 Tryz.t202:=⟨ak,ak⟩
def Vr:TP 203 Tryz.t203 Tryz.t203:=⟨ak,ak⟩
def Vq:TP 204 Tryz.t204 Tryz.t204:=⟨ak,ak⟩
def Vp:TP 205 Tryz.t205 Tryz.t205:=⟨ak,ak⟩
def Vo:TP 206 Tryz.t206 Tryz.t206:=⟨ak,ak⟩
def Vn:TP 207 Tryz.t206 Tryz.t207:=⟨ak,ak⟩
def Vl:TP 208 Tryz.t208 Tryz.t208:=⟨ak,ak⟩
def Vk:TP 209 Tryz.t209 Tryz.t209:=⟨ak,ak⟩
def Vj:TP 210 Tryz.t210 Tryz.t210:=⟨ak,ak⟩
def Vi:TP 211 Tryz.t211 Tryz.t211:=⟨ak,ak⟩
def Vh:TP 212 Tryz.t211 Tryz.t212:=⟨ak,ak⟩
def Vg:TP 213 Tryz.t213 Tryz.t213:=⟨ak,ak⟩
def Vf:TP 214 Tryz.t214 Tryz.t214:=⟨ak,ak⟩
def Ve:TP 216 Tryz.t216 Tryz.t216:=⟨ak,ak⟩
def Vd:TP 217 Tryz.t217 Tryz.t217:=⟨ak,ak⟩
def Vc:TP 218 Tryz.t218 Tryz.t218:=⟨ak,ak⟩
def Vb:TP 219 Tryz.t219 Tryz.t219:=⟨ak,ak⟩
def Va:TP 220 Tryz.t220 Tryz.t220:=⟨ak,ak⟩
def U':TP 221 Tryz.t221 Tryz.t221:=⟨ak,ak⟩
def U9:TP 222 Tryz.t222 Tryz.t222:=⟨ak,ak⟩
def U8:TP 223 Tryz.t223 Tryz.t223:=⟨ak,ak⟩
def U7:TP 224 Tryz.t224 Tryz.t224:=⟨ak,ak⟩
def U6:TP 225 Tryz.t140 Tryz.t225:=⟨ak,ak⟩
def U5:TP 226 Tryz.t226 Tryz.t226:=⟨ak,ak⟩
def U4:TP 228 Tryz.t228 Tryz.t228:=⟨ak,ak⟩
def U3:TP 229 Tryz.t229 Tryz.t229:=⟨ak,ak⟩
def U2:TP 230 Tryz.t230 Tryz.t230:=⟨ak,ak⟩
def U1:TP 231 Tryz.t231 Tryz.t231:=⟨ak,ak⟩
def U0:TP 233 Tryz.t233 Tryz.t233:=⟨ak,ak⟩
def UZ:TP 234 Tryz.t234 Tryz.t234:=⟨ak,ak⟩
def UY:TP 235 Tryz.t235 Tryz.t235:=⟨ak,ak⟩
def UX:TP 236 Tryz.t236 Tryz.t236:=⟨ak,ak⟩
def UW:TP 238 Tryz.t238 Tryz.t238:=⟨ak,ak⟩
def UU:TP 240 Tryz.t240 Tryz.t240:=⟨ak,ak⟩
def UT:TP 241 Tryz.t241 Tryz.t241:=⟨ak,ak⟩
def US:TP 242 Tryz.t242 Tryz.t242:=⟨ak,ak⟩
def UR:TP 243 Tryz.t243 Tryz.t243:=⟨ak,ak⟩
def UQ:TP 244 Tryz.t244 Tryz.t244:=⟨ak,ak⟩
def UP:TP 245 Tryz.t245 Tryz.t245:=⟨ak,ak⟩
def UO:TP 246 Tryz.t246 Tryz.t246:=⟨ak,ak⟩
def UN:TP 247 Tryz.t247 Tryz.t247:=⟨ak,ak⟩
def UM:TP 248 Tryz.t248 Tryz.t248:=⟨ak,ak⟩
def UL:TP 249 Tryz.t249 Tryz.t249:=⟨ak,ak⟩
def UK:TP 251 Tryz.t251 Tryz.t251:=⟨ak,ak⟩
def UJ:TP 252 Tryz.t252 Tryz.t252:=⟨ak,ak⟩
def UI:TP 253 Tryz.t253 Tryz.t253:=⟨ak,ak⟩
def UH:TP 254 Tryz.t254 Tryz.t254:=⟨ak,ak⟩
def UG:TP 255 Tryz.t255 Tryz.t255:=⟨ak,ak⟩
def UF:TP 256 Tryz.t255 Tryz.t256:=⟨ak,ak⟩
def UE:TP 257 Tryz.t257 Tryz.t257:=⟨ak,ak⟩
def UD:TP 259 Tryz.t259 Tryz.t259:=⟨ak,ak⟩
def UC:TP 260 Tryz.t260 Tryz.t260:=⟨ak,ak⟩
def UB:TP 261 Tryz.t261 Tryz.t261:=⟨ak,ak⟩
def UA:TP 263 Tryz.t263 Tryz.t263:=⟨ak,ak⟩
def Uz:TP 264 Tryz.t264 Tryz.t264:=⟨ak,ak⟩
def Uy:TP 265 Tryz.t265 Tryz.t265:=⟨ak,ak⟩
def Ux:TP 266 Tryz.t265 Tryz.t266:=⟨ak,ak⟩
def Uw:TP 267 Tryz.t267 Tryz.t267:=⟨ak,ak⟩
def Uv:TP 268 Tryz.t268 Tryz.t268:=⟨ak,ak⟩
def Uu:TP 269 Tryz.t268 Tryz.t269:=⟨ak,ak⟩
def Ut:TP 270 Tryz.t270 Tryz.t270:=⟨ak,ak⟩
def Us:TP 271 Tryz.t271 Tryz.t271:=⟨ak,ak⟩
def Ur:TP 272 Tryz.t3 Tryz.t272:=⟨ak,ak⟩
def Uq:TP 274 Tryz.t274 Tryz.t274:=⟨ak,ak⟩
def Up:TP 275 Tryz.t275 Tryz.t275:=⟨ak,ak⟩
def Uo:TP 276 Tryz.t276 Tryz.t276:=⟨ak,ak⟩
def Un:TP 277 Tryz.t277 Tryz.t277:=⟨ak,ak⟩
def Um:TP 278 Tryz.t278 Tryz.t278:=⟨ak,ak⟩
def Ul:TP 279 Tryz.t279 Tryz.t279:=⟨ak,ak⟩
def Uk:TP 280 Tryz.t280 Tryz.t280:=⟨ak,ak⟩
def Uj:TP 281 Tryz.t281 Tryz.t281:=⟨ak,ak⟩
def Ui:TP 283 Tryz.t283 Tryz.t283:=⟨ak,ak⟩
def Uh:TP 285 Tryz.t285 Tryz.t285:=⟨ak,ak⟩
def Ug:TP 286 Tryz.t286 Tryz.t286:=⟨ak,ak⟩
def Uf:TP 287 Tryz.t287 Tryz.t287:=⟨ak,ak⟩
def Ue:TP 288 Tryz.t288 Tryz.t288:=⟨ak,ak⟩
def Ud:TP 289 Tryz.t118 Tryz.t289:=⟨ak,ak⟩
def Uc:TP 290 Tryz.t290 Tryz.t290:=⟨ak,ak⟩
def Ub:TP 291 Tryz.t291 Tryz.t291:=⟨ak,ak⟩
def Ua:TP 292 Tryz.t292 Tryz.t292:=⟨ak,ak⟩
def T':TP 293 Tryz.t293 Tryz.t293:=⟨ak,ak⟩
def T9:TP 294 Tryz.t294 Tryz.t294:=⟨ak,ak⟩
def T8:TP 295 Tryz.t295 Tryz.t295:=⟨ak,ak⟩
def T7:TP 297 Tryz.t297 Tryz.t297:=⟨ak,ak⟩
def T6:TP 298 Tryz.t298 Tryz.t298:=⟨ak,ak⟩
def T5:TP 299 Tryz.t299 Tryz.t299:=⟨ak,ak⟩
def T4:TP 300 Tryz.t299 Tryz.t300:=⟨ak,ak⟩
def T3:TP 301 Tryz.t301 Tryz.t301:=⟨ak,ak⟩
def T2:TP 302 Tryz.t302 Tryz.t302:=⟨ak,ak⟩
def T1:TP 303 Tryz.t302 Tryz.t303:=⟨ak,ak⟩
def TZ:TP 304 Tryz.t5 Tryz.t304:=⟨ak,ak⟩
def TY:TP 305 Tryz.t5 Tryz.t305:=⟨ak,ak⟩
def TX:TP 306 Tryz.t306 Tryz.t306:=⟨ak,ak⟩
def TW:TP 307 Tryz.t307 Tryz.t307:=⟨ak,ak⟩
def TV:TP 308 Tryz.t21 Tryz.t308:=⟨ak,ak⟩
def TU:TP 309 Tryz.t21 Tryz.t309:=⟨ak,ak⟩
def TT:TP 310 Tryz.t310 Tryz.t310:=⟨ak,ak⟩
def TS:TP 311 Tryz.t310 Tryz.t311:=⟨ak,ak⟩
def TR:TP 312 Tryz.t312 Tryz.t312:=⟨ak,ak⟩
noncomputable def aQ:Tr:=(.node 153 ⟨Tryz.t153.desc,Tryz.t153⟩ (.node 80 ⟨Tryz.t80.desc,Tryz.t80⟩ (.node 37 ⟨Tryz.t36.desc,Tryz.t37⟩ (.node 18 ⟨Tryz.t18.desc,Tryz.t18⟩ (.node 9 ⟨Tryz.t9.desc,Tryz.t9⟩ (.node 5 ⟨Tryz.t5.desc,Tryz.t5⟩ (.node 3 ⟨Tryz.t3.desc,Tryz.t3⟩ (.node 2 ⟨Tryz.t2.desc,Tryz.t2⟩ (.node 1 ⟨Tryz.t1.desc,Tryz.t1⟩ .leaf .leaf) .leaf) (.node 4 ⟨Tryz.t4.desc,Tryz.t4⟩ .leaf .leaf)) (.node 7 ⟨Tryz.t7.desc,Tryz.t7⟩ (.node 6 ⟨Tryz.t5.desc,Tryz.t6⟩ .leaf .leaf) (.node 8 ⟨Tryz.t7.desc,Tryz.t8⟩ .leaf .leaf))) (.node 14 ⟨Tryz.t13.desc,Tryz.t14⟩ (.node 12 ⟨Tryz.t12.desc,Tryz.t12⟩ (.node 11 ⟨Tryz.t9.desc,Tryz.t11⟩ (.node 10 ⟨Tryz.t9.desc,Tryz.t10⟩ .leaf .leaf) .leaf) (.node 13 ⟨Tryz.t13.desc,Tryz.t13⟩ .leaf .leaf)) (.node 16 ⟨Tryz.t16.desc,Tryz.t16⟩ (.node 15 ⟨Tryz.t15.desc,Tryz.t15⟩ .leaf .leaf) (.node 17 ⟨Tryz.t17.desc,Tryz.t17⟩ .leaf .leaf)))) (.node 28 ⟨Tryz.t28.desc,Tryz.t28⟩ (.node 23 ⟨Tryz.t23.desc,Tryz.t23⟩ (.node 21 ⟨Tryz.t21.desc,Tryz.t21⟩ (.node 20 ⟨Tryz.t20.desc,Tryz.t20⟩ (.node 19 ⟨Tryz.t18.desc,Tryz.t19⟩ .leaf .leaf) .leaf) (.node 22 ⟨Tryz.t22.desc,Tryz.t22⟩ .leaf .leaf)) (.node 25 ⟨Tryz.t3.desc,Tryz.t25⟩ (.node 24 ⟨Tryz.t24.desc,Tryz.t24⟩ .leaf .leaf) (.node 27 ⟨Tryz.t27.desc,Tryz.t27⟩ .leaf .leaf))) (.node 33 ⟨Tryz.t33.desc,Tryz.t33⟩ (.node 31 ⟨Tryz.t31.desc,Tryz.t31⟩ (.node 30 ⟨Tryz.t30.desc,Tryz.t30⟩ (.node 29 ⟨Tryz.t29.desc,Tryz.t29⟩ .leaf .leaf) .leaf) (.node 32 ⟨Tryz.t31.desc,Tryz.t32⟩ .leaf .leaf)) (.node 35 ⟨Tryz.t34.desc,Tryz.t35⟩ (.node 34 ⟨Tryz.t34.desc,Tryz.t34⟩ .leaf .leaf) (.node 36 ⟨Tryz.t36.desc,Tryz.t36⟩ .leaf .leaf))))) (.node 58 ⟨Tryz.t58.desc,Tryz.t58⟩ (.node 48 ⟨Tryz.t48.desc,Tryz.t48⟩ (.node 44 ⟨Tryz.t44.desc,Tryz.t44⟩ (.node 41 ⟨Tryz.t41.desc,Tryz.t41⟩ (.node 40 ⟨Tryz.t40.desc,Tryz.t40⟩ (.node 39 ⟨Tryz.t39.desc,Tryz.t39⟩ .leaf .leaf) .leaf) (.node 42 ⟨Tryz.t42.desc,Tryz.t42⟩ .leaf .leaf)) (.node 46 ⟨Tryz.t45.desc,Tryz.t46⟩ (.node 45 ⟨Tryz.t45.desc,Tryz.t45⟩ .leaf .leaf) (.node 47 ⟨Tryz.t47.desc,Tryz.t47⟩ .leaf .leaf))) (.node 53 ⟨Tryz.t53.desc,Tryz.t53⟩ (.node 51 ⟨Tryz.t51.desc,Tryz.t51⟩ (.node 50 ⟨Tryz.t50.desc,Tryz.t50⟩ (.node 49 ⟨Tryz.t49.desc,Tryz.t49⟩ .leaf .leaf) .leaf) (.node 52 ⟨Tryz.t52.desc,Tryz.t52⟩ .leaf .leaf)) (.node 56 ⟨Tryz.t56.desc,Tryz.t56⟩ (.node 54 ⟨Tryz.t54.desc,Tryz.t54⟩ .leaf .leaf) (.node 57 ⟨Tryz.t57.desc,Tryz.t57⟩ .leaf .leaf)))) (.node 70 ⟨Tryz.t70.desc,Tryz.t70⟩ (.node 66 ⟨Tryz.t66.desc,Tryz.t66⟩ (.node 64 ⟨Tryz.t64.desc,Tryz.t64⟩ (.node 62 ⟨Tryz.t62.desc,Tryz.t62⟩ (.node 60 ⟨Tryz.t60.desc,Tryz.t60⟩ .leaf .leaf) .leaf) (.node 65 ⟨Tryz.t65.desc,Tryz.t65⟩ .leaf .leaf)) (.node 68 ⟨Tryz.t68.desc,Tryz.t68⟩ (.node 67 ⟨Tryz.t67.desc,Tryz.t67⟩ .leaf .leaf) (.node 69 ⟨Tryz.t69.desc,Tryz.t69⟩ .leaf .leaf))) (.node 74 ⟨Tryz.t74.desc,Tryz.t74⟩ (.node 72 ⟨Tryz.t71.desc,Tryz.t72⟩ (.node 71 ⟨Tryz.t71.desc,Tryz.t71⟩ .leaf .leaf) (.node 73 ⟨Tryz.t73.desc,Tryz.t73⟩ .leaf .leaf)) (.node 76 ⟨Tryz.t75.desc,Tryz.t76⟩ (.node 75 ⟨Tryz.t75.desc,Tryz.t75⟩ .leaf .leaf) (.node 78 ⟨Tryz.t78.desc,Tryz.t78⟩ .leaf .leaf)))))) (.node 116 ⟨Tryz.t116.desc,Tryz.t116⟩ (.node 99 ⟨Tryz.t99.desc,Tryz.t99⟩ (.node 90 ⟨Tryz.t90.desc,Tryz.t90⟩ (.node 86 ⟨Tryz.t86.desc,Tryz.t86⟩ (.node 84 ⟨Tryz.t84.desc,Tryz.t84⟩ (.node 83 ⟨Tryz.t83.desc,Tryz.t83⟩ (.node 82 ⟨Tryz.t82.desc,Tryz.t82⟩ .leaf .leaf) .leaf) (.node 85 ⟨Tryz.t85.desc,Tryz.t85⟩ .leaf .leaf)) (.node 88 ⟨Tryz.t87.desc,Tryz.t88⟩ (.node 87 ⟨Tryz.t87.desc,Tryz.t87⟩ .leaf .leaf) (.node 89 ⟨Tryz.t89.desc,Tryz.t89⟩ .leaf .leaf))) (.node 95 ⟨Tryz.t95.desc,Tryz.t95⟩ (.node 93 ⟨Tryz.t92.desc,Tryz.t93⟩ (.node 92 ⟨Tryz.t92.desc,Tryz.t92⟩ (.node 91 ⟨Tryz.t91.desc,Tryz.t91⟩ .leaf .leaf) .leaf) (.node 94 ⟨Tryz.t94.desc,Tryz.t94⟩ .leaf .leaf)) (.node 97 ⟨Tryz.t97.desc,Tryz.t97⟩ (.node 96 ⟨Tryz.t96.desc,Tryz.t96⟩ .leaf .leaf) (.node 98 ⟨Tryz.t98.desc,Tryz.t98⟩ .leaf .leaf)))) (.node 108 ⟨Tryz.t108.desc,Tryz.t108⟩ (.node 104 ⟨Tryz.t104.desc,Tryz.t104⟩ (.node 102 ⟨Tryz.t102.desc,Tryz.t102⟩ (.node 101 ⟨Tryz.t101.desc,Tryz.t101⟩ (.node 100 ⟨Tryz.t100.desc,Tryz.t100⟩ .leaf .leaf) .leaf) (.node 103 ⟨Tryz.t103.desc,Tryz.t103⟩ .leaf .leaf)) (.node 106 ⟨Tryz.t106.desc,Tryz.t106⟩ (.node 105 ⟨Tryz.t105.desc,Tryz.t105⟩ .leaf .leaf) (.node 107 ⟨Tryz.t107.desc,Tryz.t107⟩ .leaf .leaf))) (.node 112 ⟨Tryz.t112.desc,Tryz.t112⟩ (.node 110 ⟨Tryz.t110.desc,Tryz.t110⟩ (.node 109 ⟨Tryz.t108.desc,Tryz.t109⟩ .leaf .leaf) (.node 111 ⟨Tryz.t111.desc,Tryz.t111⟩ .leaf .leaf)) (.node 114 ⟨Tryz.t114.desc,Tryz.t114⟩ (.node 113 ⟨Tryz.t112.desc,Tryz.t113⟩ .leaf .leaf) (.node 115 ⟨Tryz.t115.desc,Tryz.t115⟩ .leaf .leaf))))) (.node 135 ⟨Tryz.t135.desc,Tryz.t135⟩ (.node 125 ⟨Tryz.t125.desc,Tryz.t125⟩ (.node 121 ⟨Tryz.t121.desc,Tryz.t121⟩ (.node 119 ⟨Tryz.t119.desc,Tryz.t119⟩ (.node 118 ⟨Tryz.t118.desc,Tryz.t118⟩ (.node 117 ⟨Tryz.t116.desc,Tryz.t117⟩ .leaf .leaf) .leaf) (.node 120 ⟨Tryz.t120.desc,Tryz.t120⟩ .leaf .leaf)) (.node 123 ⟨Tryz.t122.desc,Tryz.t123⟩ (.node 122 ⟨Tryz.t122.desc,Tryz.t122⟩ .leaf .leaf) (.node 124 ⟨Tryz.t124.desc,Tryz.t124⟩ .leaf .leaf))) (.node 130 ⟨Tryz.t130.desc,Tryz.t130⟩ (.node 128 ⟨Tryz.t128.desc,Tryz.t128⟩ (.node 127 ⟨Tryz.t127.desc,Tryz.t127⟩ (.node 126 ⟨Tryz.t126.desc,Tryz.t126⟩ .leaf .leaf) .leaf) (.node 129 ⟨Tryz.t128.desc,Tryz.t129⟩ .leaf .leaf)) (.node 132 ⟨Tryz.t132.desc,Tryz.t132⟩ (.node 131 ⟨Tryz.t131.desc,Tryz.t131⟩ .leaf .leaf) (.node 133 ⟨Tryz.t133.desc,Tryz.t133⟩ .leaf .leaf)))) (.node 144 ⟨Tryz.t144.desc,Tryz.t144⟩ (.node 140 ⟨Tryz.t140.desc,Tryz.t140⟩ (.node 138 ⟨Tryz.t138.desc,Tryz.t138⟩ (.node 137 ⟨Tryz.t137.desc,Tryz.t137⟩ (.node 136 ⟨Tryz.t136.desc,Tryz.t136⟩ .leaf .leaf) .leaf) (.node 139 ⟨Tryz.t139.desc,Tryz.t139⟩ .leaf .leaf)) (.node 142 ⟨Tryz.t142.desc,Tryz.t142⟩ (.node 141 ⟨Tryz.t141.desc,Tryz.t141⟩ .leaf .leaf) (.node 143 ⟨Tryz.t143.desc,Tryz.t143⟩ .leaf .leaf))) (.node 149 ⟨Tryz.t149.desc,Tryz.t149⟩ (.node 147 ⟨Tryz.t147.desc,Tryz.t147⟩ (.node 146 ⟨Tryz.t146.desc,Tryz.t146⟩ .leaf .leaf) (.node 148 ⟨Tryz.t148.desc,Tryz.t148⟩ .leaf .leaf)) (.node 151 ⟨Tryz.t151.desc,Tryz.t151⟩ (.node 150 ⟨Tryz.t150.desc,Tryz.t150⟩ .leaf .leaf) (.node 152 ⟨Tryz.t152.desc,Tryz.t152⟩ .leaf .leaf))))))) (.node 234 ⟨Tryz.t234.desc,Tryz.t234⟩ (.node 196 ⟨Tryz.t196.desc,Tryz.t196⟩ (.node 174 ⟨Tryz.t173.desc,Tryz.t174⟩ (.node 163 ⟨Tryz.t163.desc,Tryz.t163⟩ (.node 159 ⟨Tryz.t159.desc,Tryz.t159⟩ (.node 157 ⟨Tryz.t157.desc,Tryz.t157⟩ (.node 155 ⟨Tryz.t155.desc,Tryz.t155⟩ (.node 154 ⟨Tryz.t154.desc,Tryz.t154⟩ .leaf .leaf) .leaf) (.node 158 ⟨Tryz.t158.desc,Tryz.t158⟩ .leaf .leaf)) (.node 161 ⟨Tryz.t161.desc,Tryz.t161⟩ (.node 160 ⟨Tryz.t160.desc,Tryz.t160⟩ .leaf .leaf) (.node 162 ⟨Tryz.t162.desc,Tryz.t162⟩ .leaf .leaf))) (.node 169 ⟨Tryz.t168.desc,Tryz.t169⟩ (.node 167 ⟨Tryz.t167.desc,Tryz.t167⟩ (.node 166 ⟨Tryz.t166.desc,Tryz.t166⟩ (.node 164 ⟨Tryz.t164.desc,Tryz.t164⟩ .leaf .leaf) .leaf) (.node 168 ⟨Tryz.t168.desc,Tryz.t168⟩ .leaf .leaf)) (.node 172 ⟨Tryz.t172.desc,Tryz.t172⟩ (.node 170 ⟨Tryz.t170.desc,Tryz.t170⟩ .leaf .leaf) (.node 173 ⟨Tryz.t173.desc,Tryz.t173⟩ .leaf .leaf)))) (.node 185 ⟨Tryz.t185.desc,Tryz.t185⟩ (.node 181 ⟨Tryz.t181.desc,Tryz.t181⟩ (.node 179 ⟨Tryz.t179.desc,Tryz.t179⟩ (.node 178 ⟨Tryz.t178.desc,Tryz.t178⟩ (.node 176 ⟨Tryz.t176.desc,Tryz.t176⟩ .leaf .leaf) .leaf) (.node 180 ⟨Tryz.t180.desc,Tryz.t180⟩ .leaf .leaf)) (.node 183 ⟨Tryz.t182.desc,Tryz.t183⟩ (.node 182 ⟨Tryz.t182.desc,Tryz.t182⟩ .leaf .leaf) (.node 184 ⟨Tryz.t184.desc,Tryz.t184⟩ .leaf .leaf))) (.node 192 ⟨Tryz.t192.desc,Tryz.t192⟩ (.node 190 ⟨Tryz.t190.desc,Tryz.t190⟩ (.node 188 ⟨Tryz.t188.desc,Tryz.t188⟩ (.node 186 ⟨Tryz.t185.desc,Tryz.t186⟩ .leaf .leaf) .leaf) (.node 191 ⟨Tryz.t191.desc,Tryz.t191⟩ .leaf .leaf)) (.node 194 ⟨Tryz.t194.desc,Tryz.t194⟩ (.node 193 ⟨Tryz.t193.desc,Tryz.t193⟩ .leaf .leaf) (.node 195 ⟨Tryz.t195.desc,Tryz.t195⟩ .leaf .leaf))))) (.node 214 ⟨Tryz.t214.desc,Tryz.t214⟩ (.node 205 ⟨Tryz.t205.desc,Tryz.t205⟩ (.node 201 ⟨Tryz.t201.desc,Tryz.t201⟩ (.node 199 ⟨Tryz.t199.desc,Tryz.t199⟩ (.node 198 ⟨Tryz.t198.desc,Tryz.t198⟩ (.node 197 ⟨Tryz.t197.desc,Tryz.t197⟩ .leaf .leaf) .leaf) (.node 200 ⟨Tryz.t200.desc,Tryz.t200⟩ .leaf .leaf)) (.node 203 ⟨Tryz.t203.desc,Tryz.t203⟩ (.node 202 ⟨Tryz.t202.desc,Tryz.t202⟩ .leaf .leaf) (.node 204 ⟨Tryz.t204.desc,Tryz.t204⟩ .leaf .leaf))) (.node 210 ⟨Tryz.t210.desc,Tryz.t210⟩ (.node 208 ⟨Tryz.t208.desc,Tryz.t208⟩ (.node 207 ⟨Tryz.t206.desc,Tryz.t207⟩ (.node 206 ⟨Tryz.t206.desc,Tryz.t206⟩ .leaf .leaf) .leaf) (.node 209 ⟨Tryz.t209.desc,Tryz.t209⟩ .leaf .leaf)) (.node 212 ⟨Tryz.t211.desc,Tryz.t212⟩ (.node 211 ⟨Tryz.t211.desc,Tryz.t211⟩ .leaf .leaf) (.node 213 ⟨Tryz.t213.desc,Tryz.t213⟩ .leaf .leaf)))) (.node 224 ⟨Tryz.t224.desc,Tryz.t224⟩ (.node 220 ⟨Tryz.t220.desc,Tryz.t220⟩ (.node 218 ⟨Tryz.t218.desc,Tryz.t218⟩ (.node 217 ⟨Tryz.t217.desc,Tryz.t217⟩ (.node 216 ⟨Tryz.t216.desc,Tryz.t216⟩ .leaf .leaf) .leaf) (.node 219 ⟨Tryz.t219.desc,Tryz.t219⟩ .leaf .leaf)) (.node 222 ⟨Tryz.t222.desc,Tryz.t222⟩ (.node 221 ⟨Tryz.t221.desc,Tryz.t221⟩ .leaf .leaf) (.node 223 ⟨Tryz.t223.desc,Tryz.t223⟩ .leaf .leaf))) (.node 229 ⟨Tryz.t229.desc,Tryz.t229⟩ (.node 226 ⟨Tryz.t226.desc,Tryz.t226⟩ (.node 225 ⟨Tryz.t140.desc,Tryz.t225⟩ .leaf .leaf) (.node 228 ⟨Tryz.t228.desc,Tryz.t228⟩ .leaf .leaf)) (.node 231 ⟨Tryz.t231.desc,Tryz.t231⟩ (.node 230 ⟨Tryz.t230.desc,Tryz.t230⟩ .leaf .leaf) (.node 233 ⟨Tryz.t233.desc,Tryz.t233⟩ .leaf .leaf)))))) (.node 275 ⟨Tryz.t275.desc,Tryz.t275⟩ (.node 255 ⟨Tryz.t255.desc,Tryz.t255⟩ (.node 245 ⟨Tryz.t245.desc,Tryz.t245⟩ (.node 241 ⟨Tryz.t241.desc,Tryz.t241⟩ (.node 238 ⟨Tryz.t238.desc,Tryz.t238⟩ (.node 236 ⟨Tryz.t236.desc,Tryz.t236⟩ (.node 235 ⟨Tryz.t235.desc,Tryz.t235⟩ .leaf .leaf) .leaf) (.node 240 ⟨Tryz.t240.desc,Tryz.t240⟩ .leaf .leaf)) (.node 243 ⟨Tryz.t243.desc,Tryz.t243⟩ (.node 242 ⟨Tryz.t242.desc,Tryz.t242⟩ .leaf .leaf) (.node 244 ⟨Tryz.t244.desc,Tryz.t244⟩ .leaf .leaf))) (.node 251 ⟨Tryz.t251.desc,Tryz.t251⟩ (.node 248 ⟨Tryz.t248.desc,Tryz.t248⟩ (.node 247 ⟨Tryz.t247.desc,Tryz.t247⟩ (.node 246 ⟨Tryz.t246.desc,Tryz.t246⟩ .leaf .leaf) .leaf) (.node 249 ⟨Tryz.t249.desc,Tryz.t249⟩ .leaf .leaf)) (.node 253 ⟨Tryz.t253.desc,Tryz.t253⟩ (.node 252 ⟨Tryz.t252.desc,Tryz.t252⟩ .leaf .leaf) (.node 254 ⟨Tryz.t254.desc,Tryz.t254⟩ .leaf .leaf)))) (.node 266 ⟨Tryz.t265.desc,Tryz.t266⟩ (.node 261 ⟨Tryz.t261.desc,Tryz.t261⟩ (.node 259 ⟨Tryz.t259.desc,Tryz.t259⟩ (.node 257 ⟨Tryz.t257.desc,Tryz.t257⟩ (.node 256 ⟨Tryz.t255.desc,Tryz.t256⟩ .leaf .leaf) .leaf) (.node 260 ⟨Tryz.t260.desc,Tryz.t260⟩ .leaf .leaf)) (.node 264 ⟨Tryz.t264.desc,Tryz.t264⟩ (.node 263 ⟨Tryz.t263.desc,Tryz.t263⟩ .leaf .leaf) (.node 265 ⟨Tryz.t265.desc,Tryz.t265⟩ .leaf .leaf))) (.node 270 ⟨Tryz.t270.desc,Tryz.t270⟩ (.node 268 ⟨Tryz.t268.desc,Tryz.t268⟩ (.node 267 ⟨Tryz.t267.desc,Tryz.t267⟩ .leaf .leaf) (.node 269 ⟨Tryz.t268.desc,Tryz.t269⟩ .leaf .leaf)) (.node 272 ⟨Tryz.t3.desc,Tryz.t272⟩ (.node 271 ⟨Tryz.t271.desc,Tryz.t271⟩ .leaf .leaf) (.node 274 ⟨Tryz.t274.desc,Tryz.t274⟩ .leaf .leaf))))) (.node 295 ⟨Tryz.t295.desc,Tryz.t295⟩ (.node 286 ⟨Tryz.t286.desc,Tryz.t286⟩ (.node 280 ⟨Tryz.t280.desc,Tryz.t280⟩ (.node 278 ⟨Tryz.t278.desc,Tryz.t278⟩ (.node 277 ⟨Tryz.t277.desc,Tryz.t277⟩ (.node 276 ⟨Tryz.t276.desc,Tryz.t276⟩ .leaf .leaf) .leaf) (.node 279 ⟨Tryz.t279.desc,Tryz.t279⟩ .leaf .leaf)) (.node 283 ⟨Tryz.t283.desc,Tryz.t283⟩ (.node 281 ⟨Tryz.t281.desc,Tryz.t281⟩ .leaf .leaf) (.node 285 ⟨Tryz.t285.desc,Tryz.t285⟩ .leaf .leaf))) (.node 291 ⟨Tryz.t291.desc,Tryz.t291⟩ (.node 289 ⟨Tryz.t118.desc,Tryz.t289⟩ (.node 288 ⟨Tryz.t288.desc,Tryz.t288⟩ (.node 287 ⟨Tryz.t287.desc,Tryz.t287⟩ .leaf .leaf) .leaf) (.node 290 ⟨Tryz.t290.desc,Tryz.t290⟩ .leaf .leaf)) (.node 293 ⟨Tryz.t293.desc,Tryz.t293⟩ (.node 292 ⟨Tryz.t292.desc,Tryz.t292⟩ .leaf .leaf) (.node 294 ⟨Tryz.t294.desc,Tryz.t294⟩ .leaf .leaf)))) (.node 305 ⟨Tryz.t5.desc,Tryz.t305⟩ (.node 301 ⟨Tryz.t301.desc,Tryz.t301⟩ (.node 299 ⟨Tryz.t299.desc,Tryz.t299⟩ (.node 298 ⟨Tryz.t298.desc,Tryz.t298⟩ (.node 297 ⟨Tryz.t297.desc,Tryz.t297⟩ .leaf .leaf) .leaf) (.node 300 ⟨Tryz.t299.desc,Tryz.t300⟩ .leaf .leaf)) (.node 303 ⟨Tryz.t302.desc,Tryz.t303⟩ (.node 302 ⟨Tryz.t302.desc,Tryz.t302⟩ .leaf .leaf) (.node 304 ⟨Tryz.t5.desc,Tryz.t304⟩ .leaf .leaf))) (.node 309 ⟨Tryz.t21.desc,Tryz.t309⟩ (.node 307 ⟨Tryz.t307.desc,Tryz.t307⟩ (.node 306 ⟨Tryz.t306.desc,Tryz.t306⟩ .leaf .leaf) (.node 308 ⟨Tryz.t21.desc,Tryz.t308⟩ .leaf .leaf)) (.node 311 ⟨Tryz.t310.desc,Tryz.t311⟩ (.node 310 ⟨Tryz.t310.desc,Tryz.t310⟩ .leaf .leaf) (.node 312 ⟨Tryz.t312.desc,Tryz.t312⟩ .leaf .leaf))))))))
instance kh:fX Tryz.prog aQ:=⟨⟨V9,⟨ZQ,⟨aaq,⟨aaI,⟨acz,⟨acD,⟨acF,⟨acG,⟨acH,trivial,trivial⟩,trivial⟩,⟨acE,trivial,trivial⟩⟩,⟨acB,⟨acC,trivial,trivial⟩,⟨acA,trivial,trivial⟩⟩⟩,⟨aaM,⟨aaO,⟨aaP,⟨aaQ,trivial,trivial⟩,trivial⟩,⟨aaN,trivial,trivial⟩⟩,⟨aaK,⟨aaL,trivial,trivial⟩,⟨aaJ,trivial,trivial⟩⟩⟩⟩,⟨aaz,⟨aaD,⟨aaF,⟨aaG,⟨aaH,trivial,trivial⟩,trivial⟩,⟨aaE,trivial,trivial⟩⟩,⟨aaB,⟨aaC,trivial,trivial⟩,⟨aaA,trivial,trivial⟩⟩⟩,⟨aau,⟨aaw,⟨aax,⟨aay,trivial,trivial⟩,trivial⟩,⟨aav,trivial,trivial⟩⟩,⟨aas,⟨aat,trivial,trivial⟩,⟨aar,trivial,trivial⟩⟩⟩⟩⟩,⟨Z9,⟨aah,⟨aal,⟨aan,⟨aao,⟨aap,trivial,trivial⟩,trivial⟩,⟨aam,trivial,trivial⟩⟩,⟨aaj,⟨aak,trivial,trivial⟩,⟨aai,trivial,trivial⟩⟩⟩,⟨aac,⟨aae,⟨aaf,⟨aag,trivial,trivial⟩,trivial⟩,⟨aad,trivial,trivial⟩⟩,⟨aaa,⟨aab,trivial,trivial⟩,⟨Z',trivial,trivial⟩⟩⟩⟩,⟨ZY,⟨Z4,⟨Z6,⟨Z7,⟨Z8,trivial,trivial⟩,trivial⟩,⟨Z5,trivial,trivial⟩⟩,⟨Z1,⟨Z3,trivial,trivial⟩,⟨ZZ,trivial,trivial⟩⟩⟩,⟨ZU,⟨ZW,⟨ZX,trivial,trivial⟩,⟨ZV,trivial,trivial⟩⟩,⟨ZS,⟨ZT,trivial,trivial⟩,⟨ZR,trivial,trivial⟩⟩⟩⟩⟩⟩,⟨WI,⟨Zy,⟨ZH,⟨ZL,⟨ZN,⟨ZO,⟨ZP,trivial,trivial⟩,trivial⟩,⟨ZM,trivial,trivial⟩⟩,⟨ZJ,⟨ZK,trivial,trivial⟩,⟨ZI,trivial,trivial⟩⟩⟩,⟨ZC,⟨ZE,⟨ZF,⟨ZG,trivial,trivial⟩,trivial⟩,⟨ZD,trivial,trivial⟩⟩,⟨ZA,⟨ZB,trivial,trivial⟩,⟨Zz,trivial,trivial⟩⟩⟩⟩,⟨WR,⟨WV,⟨WX,⟨WY,⟨WZ,trivial,trivial⟩,trivial⟩,⟨WW,trivial,trivial⟩⟩,⟨WT,⟨WU,trivial,trivial⟩,⟨WS,trivial,trivial⟩⟩⟩,⟨WM,⟨WO,⟨WQ,trivial,trivial⟩,⟨WN,trivial,trivial⟩⟩,⟨WK,⟨WL,trivial,trivial⟩,⟨WJ,trivial,trivial⟩⟩⟩⟩⟩,⟨Wp,⟨Wy,⟨WC,⟨WE,⟨WG,⟨WH,trivial,trivial⟩,trivial⟩,⟨WD,trivial,trivial⟩⟩,⟨WA,⟨WB,trivial,trivial⟩,⟨Wz,trivial,trivial⟩⟩⟩,⟨Wt,⟨Wv,⟨Ww,⟨Wx,trivial,trivial⟩,trivial⟩,⟨Wu,trivial,trivial⟩⟩,⟨Wr,⟨Ws,trivial,trivial⟩,⟨Wq,trivial,trivial⟩⟩⟩⟩,⟨Wg,⟨Wk,⟨Wm,⟨Wn,⟨Wo,trivial,trivial⟩,trivial⟩,⟨Wl,trivial,trivial⟩⟩,⟨Wi,⟨Wj,trivial,trivial⟩,⟨Wh,trivial,trivial⟩⟩⟩,⟨Wc,⟨We,⟨Wf,trivial,trivial⟩,⟨Wd,trivial,trivial⟩⟩,⟨Wa,⟨Wb,trivial,trivial⟩,⟨V',trivial,trivial⟩⟩⟩⟩⟩⟩⟩,⟨UZ,⟨Vz,⟨VR,⟨V0,⟨V4,⟨V6,⟨V7,⟨V8,trivial,trivial⟩,trivial⟩,⟨V5,trivial,trivial⟩⟩,⟨V2,⟨V3,trivial,trivial⟩,⟨V1,trivial,trivial⟩⟩⟩,⟨VV,⟨VX,⟨VY,⟨VZ,trivial,trivial⟩,trivial⟩,⟨VW,trivial,trivial⟩⟩,⟨VT,⟨VU,trivial,trivial⟩,⟨VS,trivial,trivial⟩⟩⟩⟩,⟨VI,⟨VM,⟨VO,⟨VP,⟨VQ,trivial,trivial⟩,trivial⟩,⟨VN,trivial,trivial⟩⟩,⟨VK,⟨VL,trivial,trivial⟩,⟨VJ,trivial,trivial⟩⟩⟩,⟨VD,⟨VF,⟨VG,⟨VH,trivial,trivial⟩,trivial⟩,⟨VE,trivial,trivial⟩⟩,⟨VB,⟨VC,trivial,trivial⟩,⟨VA,trivial,trivial⟩⟩⟩⟩⟩,⟨Vf,⟨Vp,⟨Vt,⟨Vv,⟨Vx,⟨Vy,trivial,trivial⟩,trivial⟩,⟨Vu,trivial,trivial⟩⟩,⟨Vr,⟨Vs,trivial,trivial⟩,⟨Vq,trivial,trivial⟩⟩⟩,⟨Vj,⟨Vl,⟨Vn,⟨Vo,trivial,trivial⟩,trivial⟩,⟨Vk,trivial,trivial⟩⟩,⟨Vh,⟨Vi,trivial,trivial⟩,⟨Vg,trivial,trivial⟩⟩⟩⟩,⟨U7,⟨Va,⟨Vc,⟨Vd,⟨Ve,trivial,trivial⟩,trivial⟩,⟨Vb,trivial,trivial⟩⟩,⟨U9,⟨U',trivial,trivial⟩,⟨U8,trivial,trivial⟩⟩⟩,⟨U3,⟨U5,⟨U6,trivial,trivial⟩,⟨U4,trivial,trivial⟩⟩,⟨U1,⟨U2,trivial,trivial⟩,⟨U0,trivial,trivial⟩⟩⟩⟩⟩⟩,⟨Up,⟨UG,⟨UP,⟨UT,⟨UW,⟨UX,⟨UY,trivial,trivial⟩,trivial⟩,⟨UU,trivial,trivial⟩⟩,⟨UR,⟨US,trivial,trivial⟩,⟨UQ,trivial,trivial⟩⟩⟩,⟨UK,⟨UM,⟨UN,⟨UO,trivial,trivial⟩,trivial⟩,⟨UL,trivial,trivial⟩⟩,⟨UI,⟨UJ,trivial,trivial⟩,⟨UH,trivial,trivial⟩⟩⟩⟩,⟨Ux,⟨UB,⟨UD,⟨UE,⟨UF,trivial,trivial⟩,trivial⟩,⟨UC,trivial,trivial⟩⟩,⟨Uz,⟨UA,trivial,trivial⟩,⟨Uy,trivial,trivial⟩⟩⟩,⟨Ut,⟨Uv,⟨Uw,trivial,trivial⟩,⟨Uu,trivial,trivial⟩⟩,⟨Ur,⟨Us,trivial,trivial⟩,⟨Uq,trivial,trivial⟩⟩⟩⟩⟩,⟨T8,⟨Ug,⟨Uk,⟨Um,⟨Un,⟨Uo,trivial,trivial⟩,trivial⟩,⟨Ul,trivial,trivial⟩⟩,⟨Ui,⟨Uj,trivial,trivial⟩,⟨Uh,trivial,trivial⟩⟩⟩,⟨Ub,⟨Ud,⟨Ue,⟨Uf,trivial,trivial⟩,trivial⟩,⟨Uc,trivial,trivial⟩⟩,⟨T',⟨Ua,trivial,trivial⟩,⟨T9,trivial,trivial⟩⟩⟩⟩,⟨TY,⟨T3,⟨T5,⟨T6,⟨T7,trivial,trivial⟩,trivial⟩,⟨T4,trivial,trivial⟩⟩,⟨T1,⟨T2,trivial,trivial⟩,⟨TZ,trivial,trivial⟩⟩⟩,⟨TU,⟨TW,⟨TX,trivial,trivial⟩,⟨TV,trivial,trivial⟩⟩,⟨TS,⟨TT,trivial,trivial⟩,⟨TR,trivial,trivial⟩⟩⟩⟩⟩⟩⟩⟩⟩
def mixed:Tryz.prog.follows .mixedOrders=true:=by kernel_rfl
def go{A B:Prop}(a:A)(h:YU A→B:=by(intro h;(repeat'(first|refine FP (U:=aQ) rfl ?_|(refine JR ?_;first|refine uA zr zr zr zr ?_|refine uB zr zr zr zr zr zr zr ?_|refine uz zr zr zr zr zr zr ?_|refine rA zr zr zr zr zr zr ?_)|(refine aK ?_;first|refine eY (U:=aQ) 0 zr zr zr zr zr zr ?_|refine eY (U:=aQ) 1 zr zr zr zr zr zr ?_|refine eY (U:=aQ) 2 zr zr zr zr zr zr ?_|refine eY (U:=aQ) 3 zr zr zr zr zr zr ?_|refine eY (U:=aQ) 4 zr zr zr zr zr zr ?_|refine eY (U:=aQ) 5 zr zr zr zr zr zr ?_|refine iz (U:=aQ) 0 zr zr zr zr zr zr ?_|refine iz (U:=aQ) 1 zr zr zr zr zr zr ?_|refine iz (U:=aQ) 2 zr zr zr zr zr zr ?_)|(refine uy ?_;first|refine xx zr zr zr ?_|refine xy zr zr zr ?_)|(refine lO ?_;first|refine JW zr zr zr (by simp only[gq];omega) ?_|refine C4 zr zr zr (by simp only[gq];omega) ?_)|(refine ez ?_;refine zO (U:=aQ) zr zr zr zr zr zr (by simp only[gq];omega) ?_)|(refine aT ?_;first|refine eV (U:=aQ) 0 gB zr zr zr zr zr zr zr zr zr ?_|refine eV (U:=aQ) 1 gB zr zr zr zr zr zr zr zr zr ?_|refine eV (U:=aQ) 2 gB zr zr zr zr zr zr zr zr zr ?_|refine eV (U:=aQ) 3 gB zr zr zr zr zr zr zr zr zr ?_)|refine FO ?_|refine aD rfl ?_|refine px zr zr ?_|refine ix zr zr ?_));exact h.out)):B:=h ⟨a⟩
def gy{A B:Prop}(a:A)(h:YU A→B:=by(intro h;(first|refine FP (U:=aQ) rfl ?_|(refine JR ?_;first|refine uA zr zr zr zr ?_|refine uB zr zr zr zr zr zr zr ?_|refine uz zr zr zr zr zr zr ?_|refine rA zr zr zr zr zr zr ?_)|(refine aK ?_;first|refine eY (U:=aQ) 0 zr zr zr zr zr zr ?_|refine eY (U:=aQ) 1 zr zr zr zr zr zr ?_|refine eY (U:=aQ) 2 zr zr zr zr zr zr ?_|refine eY (U:=aQ) 3 zr zr zr zr zr zr ?_|refine eY (U:=aQ) 4 zr zr zr zr zr zr ?_|refine eY (U:=aQ) 5 zr zr zr zr zr zr ?_|refine iz (U:=aQ) 0 zr zr zr zr zr zr ?_|refine iz (U:=aQ) 1 zr zr zr zr zr zr ?_|refine iz (U:=aQ) 2 zr zr zr zr zr zr ?_)|(refine uy ?_;first|refine xx zr zr zr ?_|refine xy zr zr zr ?_)|(refine lO ?_;first|refine JW zr zr zr (by simp only[gq];omega) ?_|refine C4 zr zr zr (by simp only[gq];omega) ?_)|(refine ez ?_;refine zO (U:=aQ) zr zr zr zr zr zr (by simp only[gq];omega) ?_)|(refine aT ?_;first|refine eV (U:=aQ) 0 gB zr zr zr zr zr zr zr zr zr ?_|refine eV (U:=aQ) 1 gB zr zr zr zr zr zr zr zr zr ?_|refine eV (U:=aQ) 2 gB zr zr zr zr zr zr zr zr zr ?_|refine eV (U:=aQ) 3 gB zr zr zr zr zr zr zr zr zr ?_)|refine FO ?_|refine aD rfl ?_|refine px zr zr ?_|refine ix zr zr ?_);(repeat'(first|refine FP (U:=aQ) rfl ?_|(refine JR ?_;first|refine uA zr zr zr zr ?_|refine uB zr zr zr zr zr zr zr ?_|refine uz zr zr zr zr zr zr ?_|refine rA zr zr zr zr zr zr ?_)|(refine aK ?_;first|refine eY (U:=aQ) 0 zr zr zr zr zr zr ?_|refine eY (U:=aQ) 1 zr zr zr zr zr zr ?_|refine eY (U:=aQ) 2 zr zr zr zr zr zr ?_|refine eY (U:=aQ) 3 zr zr zr zr zr zr ?_|refine eY (U:=aQ) 4 zr zr zr zr zr zr ?_|refine eY (U:=aQ) 5 zr zr zr zr zr zr ?_|refine iz (U:=aQ) 0 zr zr zr zr zr zr ?_|refine iz (U:=aQ) 1 zr zr zr zr zr zr ?_|refine iz (U:=aQ) 2 zr zr zr zr zr zr ?_)|(refine uy ?_;first|refine xx zr zr zr ?_|refine xy zr zr zr ?_)|(refine lO ?_;first|refine JW zr zr zr (by simp only[gq];omega) ?_|refine C4 zr zr zr (by simp only[gq];omega) ?_)|(refine ez ?_;refine zO (U:=aQ) zr zr zr zr zr zr (by simp only[gq];omega) ?_)|(refine aT ?_;first|refine eV (U:=aQ) 0 gB zr zr zr zr zr zr zr zr zr ?_|refine eV (U:=aQ) 1 gB zr zr zr zr zr zr zr zr zr ?_|refine eV (U:=aQ) 2 gB zr zr zr zr zr zr zr zr zr ?_|refine eV (U:=aQ) 3 gB zr zr zr zr zr zr zr zr zr ?_)|refine FO ?_|refine aD rfl ?_|refine px zr zr ?_|refine ix zr zr ?_));exact h.out)):B:=h ⟨a⟩
def ld{A B:Prop}(a:A)(h:YU A→B:=by(intro h;(repeat'(first|refine FP (U:=aQ) rfl ?_|(refine JR ?_;first|refine uA zr zr zr zr ?_|refine uB zr zr zr zr zr zr zr ?_|refine uz zr zr zr zr zr zr ?_|refine rA zr zr zr zr zr zr ?_)|(refine aK ?_;first|refine eY (U:=aQ) 0 zr zr zr zr zr zr ?_|refine eY (U:=aQ) 1 zr zr zr zr zr zr ?_|refine eY (U:=aQ) 2 zr zr zr zr zr zr ?_|refine eY (U:=aQ) 3 zr zr zr zr zr zr ?_|refine eY (U:=aQ) 4 zr zr zr zr zr zr ?_|refine eY (U:=aQ) 5 zr zr zr zr zr zr ?_|refine iz (U:=aQ) 0 zr zr zr zr zr zr ?_|refine iz (U:=aQ) 1 zr zr zr zr zr zr ?_|refine iz (U:=aQ) 2 zr zr zr zr zr zr ?_)|(refine uy ?_;first|refine xx zr zr zr ?_|refine xy zr zr zr ?_)|(refine lO ?_;first|refine JW zr zr zr (by simp only[gq];omega) ?_|refine C4 zr zr zr (by simp only[gq];omega) ?_)|(refine ez ?_;refine zO (U:=aQ) zr zr zr zr zr zr (by simp only[gq];omega) ?_)|(refine aT ?_;first|refine eV (U:=aQ) 0 gB zr zr zr zr zr zr zr zr zr ?_|refine eV (U:=aQ) 1 gB zr zr zr zr zr zr zr zr zr ?_|refine eV (U:=aQ) 2 gB zr zr zr zr zr zr zr zr zr ?_|refine eV (U:=aQ) 3 gB zr zr zr zr zr zr zr zr zr ?_)|refine FO ?_));exact h.out)):B:=h ⟨a⟩
def il := @JU Tryz.prog aQ kh
def aj := @Aq Tryz.prog aQ kh
def aR := @Qb Tryz.prog aQ kh
def bM := @acv Tryz.prog aQ kh
def bj := @P8 Tryz.prog aQ kh
def bh := @Im Tryz.prog aQ kh
def lT := @SB Tryz.prog aQ kh
def mK := @P9 Tryz.prog aQ kh
def jo := @FM Tryz.prog aQ kh
def lU := @C7 Tryz.prog aQ kh
def cq := @eV Tryz.prog aQ kh
def cL := @acw Tryz.prog aQ kh
def az := @SE Tryz.prog aQ kh
def dH := @Mj Tryz.prog aQ kh
def cO := @Mi Tryz.prog aQ kh
def gp := @zM Tryz.prog aQ kh
def ox := @Sz Tryz.prog aQ kh
def lV := @iz Tryz.prog aQ kh
end Go.Proofs.YtedjnjkijiddlaaGreatDoor
namespace Go.Proofs.YtedjnjkijiddlaaGreatDoor
open Go Go.SL
def PA{A:HP}{v:Value}{bs:List UInt8}(hv:Vw A v bs.length (bV bs))(h:0<bs.length):∃b o c,v = .slice (some ⟨b,o,none⟩) bs.length c:=hv.some (by cases bs with
 | nil=>simp at h
 | cons x l=>simp[bV])
def xl{bs:List UInt8}{i:Nat}(h:i<bs.length):(bV bs)[i]?=some (u8 (bs.getD i 0)):=by
 rw[List.getD_eq_getElem?_getD]
 simp[bV,h]
def xX{x q:Nat}(y:Nat)(h:x*2 ^ (min q 64)=y)(hy:y<9223372036854775808):Value.int .i64 (IntKind.i64.wrap ((x:Int)*2 ^ (min ((q:Int).toNat) IntKind.i64.bits))) = .int .i64 (y:Int):=by
 have e:(x:Int)*2 ^ (min ((q:Int).toNat) IntKind.i64.bits)=(y:Int):=by
  show(x:Int)*2 ^ (min q 64)=_
  rw[← h];push_cast;rfl
 rw[e,cS (by simp only[gq];omega)]
end Go.Proofs.YtedjnjkijiddlaaGreatDoor
namespace Go.SL
def uv(n:Nat):List UInt8:=if n<128 then [UInt8.ofNat n]else UInt8.ofNat (n%128+128)::uv (n/128)
termination_by n
decreasing_by omega
def gh{n:Nat}(h:n<128):uv n=[UInt8.ofNat n]:=by rw[uv,if_pos h]
def xG{n:Nat}(h:¬n<128):uv n=UInt8.ofNat (n%128+128)::uv (n/128):=by rw[uv,if_neg h]
def xF:∀(k n:Nat),n<128 ^ (k+1)→(uv n).length≤k+1
 | 0,n,h=>by rw[gh (by simpa using h)];simp
 | k+1,n,h=>by
  by_cases hn:n<128
  ·rw[gh hn];simp
  ·rw[xG hn,List.length_cons]
   have:=xF k (n/128) (Nat.div_lt_of_lt_mul (by rw[Nat.pow_succ,Nat.mul_comm]at h;exact h))
   omega
def pQ{n:Nat}(h:n<18446744073709551616):(uv n).length≤10:=xF 9 n (Nat.lt_of_lt_of_le h (by decide))
def Gm(n:Nat):0<(uv n).length:=by
 by_cases h:n<128
 ·rw[gh h];simp
 ·rw[xG h];simp
def acb(m:Nat):Value.int .u8 (IntKind.u8.wrap (m:Int)) = .int .u8 ((m%256:Nat):Int):=by
 have h:IntKind.u8.wrap (m:Int)=(m:Int)%256:=by simp[IntKind.wrap,IntKind.bits,IntKind.signed]
 rw[h];congr 1
def Rh(m:Nat):Value.int .u8 (IntKind.u8.wrap ((BitVec.ofInt IntKind.u8.bits ((m%256:Nat):Int) ||| BitVec.ofInt IntKind.u8.bits 128).toNat:Int))=u8 (UInt8.ofNat (m%128+128)):=by
 rw[NT _ ag]
 simp only[u8,UInt8.toNat_ofNat']
 congr 1
 omega
def og:Nat→Nat→List UInt8→Option (Nat × List UInt8 × Bool)
 | _,_,[]=>none
 | i,acc,c::r=>if i=10∨(i=9∧1<c.toNat)then none else if c.toNat<128 then some (acc+c.toNat*2 ^ (7*i),r,decide (i=0∨0<c.toNat))else og (i+1) (acc+(c.toNat%128)*2 ^ (7*i)) r
def dr(bs:List UInt8):Nat × List UInt8 × Bool:=(og 0 0 bs).getD (0,[],false)
def di(bs:List UInt8):Option Nat:=if(dr bs).2.2=true∧(dr bs).2.1=[]then some (dr bs).1 else none
def IH{i acc c:Nat}(ha:acc<2 ^ (7*i))(hc:c<128):acc+c*2 ^ (7*i)<2 ^ (7*(i+1)):=by
 have h1:acc+c*2 ^ (7*i)<(c+1)*2 ^ (7*i):=by rw[Nat.add_mul,Nat.one_mul];omega
 have h2:(c+1)*2 ^ (7*i)≤128*2 ^ (7*i):=Nat.mul_le_mul_right _ ag
 have h3:2 ^ (7*(i+1))=128*2 ^ (7*i):=by rw[show 7*(i+1)=7*i+7 from by omega,Nat.pow_add,Nat.mul_comm]
 omega
def QT{i acc c:Nat}(hi:i≤9)(ha:acc<2 ^ (7*i))(hc:c<128)(h9:i=9→c≤1):acc+c*2 ^ (7*i)<18446744073709551616:=by
 by_cases h:i=9
 ·subst h
  have:=h9 rfl
  have h63:(2:Nat) ^ (7*9)=9223372036854775808:=by decide
  rw[h63]at ha ⊢
  have:c*9223372036854775808≤1*9223372036854775808:=Nat.mul_le_mul_right _ this
  omega
 ·have h1:=IH ha hc
  have h2:2 ^ (7*(i+1))≤2 ^ 63:=Nat.pow_le_pow_right ag ag
  omega
def Jx:∀(k n i acc:Nat) (rest:List UInt8),n<128 ^ (k+1)→i+k≤8→(i≠0→n≠0)→og i acc (uv n++rest)=some (acc+n*2 ^ (7*i),rest,true)
 | k,n,i,acc,rest,hn,hik,h0=>by
  by_cases h:n<128
  ·rw[gh h]
   have e:(UInt8.ofNat n).toNat=n:=by simp only[UInt8.toNat_ofNat'];omega
   simp only[List.cons_append,List.nil_append,og,e]
   rw[if_neg ag,if_pos h]
   have:(i=0∨0<n):=by
    by_cases hi:i=0
    ·exact .inl hi
    ·exact .inr (by have:=h0 hi;omega)
   rw[decide_eq_true this]
  ·cases k with
   | zero=>simp at hn;omega
   | succ k =>
    rw[xG h]
    have e:(UInt8.ofNat (n%128+128)).toNat=n%128+128:=by simp only[UInt8.toNat_ofNat'];omega
    simp only[List.cons_append,og,e]
    rw[if_neg ag,if_neg ag,show(n%128+128)%128=n%128 from by omega,
     Jx k (n/128) (i+1) _ rest (Nat.div_lt_of_lt_mul (by rw[Nat.pow_succ,Nat.mul_comm]at hn;exact hn)) ag (by intro _;omega)]
    have h3:n/128*2 ^ (7*(i+1))=n/128*128*2 ^ (7*i):=by rw[show 7*(i+1)=7+7*i from by omega,Nat.pow_add,Nat.mul_assoc]
    have h4:n%128*2 ^ (7*i)+n/128*128*2 ^ (7*i)=n*2 ^ (7*i):=by rw[← Nat.add_mul];congr 1;omega
    rw[h3,Nat.add_assoc,h4]
def Jy{n:Nat}(h:n<9223372036854775808)(rest:List UInt8):dr (uv n++rest)=(n,rest,true):=by
 unfold dr
 rw[Jx 8 n 0 0 rest (Nat.lt_of_lt_of_le h (by decide)) ag (by intro h;exact absurd rfl h)]
 simp
def uQ{n:Nat}(h:n<9223372036854775808):di (uv n)=some n:=by
 have:=Jy h []
 rw[List.append_nil]at this
 unfold di
 rw[this];simp
def l9(bs:List UInt8):Option (Nat × Nat) :=
 if 1≤bs.length then match di (bs.take 1)with
  | some n=>some (1,n)
  | none=>if 2≤bs.length then(di (bs.take 2)).map fun n=>(2,n)else none
 else none
def oI{bs:List UInt8}{n:Nat}(h:di bs=some n)(hl:bs.length≤2):n<16384:=by
 unfold di dr at h
 split at h
 ·rename_i hh
  cases h
  match bs,hl with
  | [],_=>simp[og]at hh
  | [a],_ =>
   by_cases ha:a.toNat<128
   ·simp[og,ha];omega
   ·simp[og,ha]at hh
  | [a,b],_ =>
   by_cases ha:a.toNat<128
   ·simp[og,ha];omega
   ·by_cases hb:b.toNat<128
    ·simp[og,ha,hb];omega
    ·simp[og,ha,hb]at hh
 ·cases h
end Go.SL
namespace Go.Proofs.YtedjnjkijiddlaaGreatDoor
open Go Go.SL
variable{A:HP}{bs:List UInt8}{n:Nat}{a:Option Addr}
attribute [local irreducible] J K aE Ends ae aB aP bP bq aS aZ bu
def mC(n:Nat)(h:n<18446744073709551616):aE Tryz.prog 94 [.int .u64 (n:Int)] [] (fun r H=>H=[aB 5 1 r (uv n).length (bV (uv n))]):=by
 refine aE.ao Tryz.func94 Tryz.ntmps94 fun G F R hE=>?_
 refine go ?_
 first|refine ai (bN 5 1 none _) ?_|refine aI (bN 5 1 none _) ?_
 have ac2:=pQ h
 refine bB (fun s:Nat × List UInt8 × Value=>s.2.1++uv s.1=uv n∧s.1≤n) (fun s=>s.1)
  (fun s=>[(0,.int .u64 (s.1:Int)),(3,s.2.2)])
  (fun s=>aB 5 1 s.2.2 s.2.1.length (bV s.2.1)::F) (n,[],.slice none 0 0) ⟨rfl,Nat.le_refl _⟩ rfl cg ah ?_
 rintro⟨m,done,v⟩⟨hm,Za⟩ ih
 simp only at hm Za
 have hlen:done.length+(uv m).length≤10:=by rw[← List.length_append,hm];exact ac2
 have lu:=Gm m
 first|refine aO 0 rfl ?_|refine dz 0 rfl ?_
 rintro va vc hve
 simp only at hve
 subst hve
 refine go ?_
 refine aq zr zr ?_ ?_
 ·intro fA
  simp only at fA
  have tQ:¬m<128:=by omega
  refine go ?_
  refine il zr zr zr zr zr zr ?_
  refine au 10 (.int .u8 ((m%256:Nat):Int)) rfl (acb m) (go ?_)
  refine au 11 (u8 (UInt8.ofNat (m%128+128))) rfl (Rh m) ?_
  refine aj (cs:=bV [UInt8.ofNat (m%128+128)]) zr zr zr zr zr zr zr zr zr bD ?_
  intro b1
  refine aR (mm:=1) (news:=bV [UInt8.ofNat (m%128+128)]) 1 0 zr zr zr zr zr zr zr zr zr zr zr zr (Vw.ae rfl) rfl (cX _) (by simp only;omega) (by show(_+1)*1≤_;simp only;omega) (fun _=>rfl) bD ?_
  intro v1
  rw[show bV done++bV [UInt8.ofNat (m%128+128)]=bV (done++[UInt8.ofNat (m%128+128)])from by simp[bV],show done.length+1=(done++[UInt8.ofNat (m%128+128)]).length from by simp]
  first|refine aO 1 rfl ?_|refine dz 1 rfl ?_
  rintro wa wc rfl
  refine go ?_
  refine jl zr zr zr ag ?_
  refine au 7 (.int .u64 ((m/128:Nat):Int)) rfl (congrArg (Value.int .u64) (by show(m:Int)/128=_;omega)) ?_
  refine go ?_
  refine aM ih (m/128,done++[UInt8.ofNat (m%128+128)],_) rfl ⟨by simp only[List.append_assoc,List.singleton_append];rw[← xG tQ];exact hm,by simp only;omega⟩ (by simp only;omega) cg ah
 ·intro de
  simp only at de
  have Ae:m<128:=by omega
  refine go ?_
  refine au 16 (u8 (UInt8.ofNat m)) rfl (by simp only[u8,UInt8.toNat_ofNat'];congr 1;omega) ?_
  refine aj (cs:=bV [UInt8.ofNat m]) zr zr zr zr zr zr zr zr zr bD ?_
  intro b1
  refine aR (mm:=1) (news:=bV [UInt8.ofNat m]) 1 0 zr zr zr zr zr zr zr zr zr zr zr zr (Vw.ae rfl) rfl (cX _) (by simp only;omega) (by show(_+1)*1≤_;simp only;omega) (fun _=>rfl) bD ?_
  intro v1
  rw[show bV done++bV [UInt8.ofNat m]=bV (uv n)from by rw[← hm,gh Ae];simp[bV],show done.length+1=(uv n).length from by rw[← hm,gh Ae];simp]
  refine go ?_
  first|refine aL hE Tryz.func94 rfl _ zr zr ah|refine bW hE Tryz.func94 rfl _ zr zr ah
def AN{x q y:Nat}(hq:q≤64)(h:x*2 ^ q=y)(hy:y<18446744073709551616):Value.int .u64 (IntKind.u64.wrap ((x:Int)*2 ^ (min ((q:Int).toNat) IntKind.u64.bits))) = .int .u64 (y:Int):=by
 have e:(x:Int)*2 ^ (min ((q:Int).toNat) IntKind.u64.bits)=(y:Int):=by
  show(x:Int)*2 ^ (min q 64)=_
  rw[Nat.min_eq_left hq,← h];push_cast;rfl
 rw[e,cS (by simp only[gq];omega)]
def Ei(A:HP):Vw A (.slice none 0 0) ([]:List UInt8).length (bV []):=⟨none,0,rfl,.inl rfl⟩
set_option maxRecDepth 20000 in
def Jw(A:HP)(v:Value)(bs:List UInt8)(hv:Vw A v bs.length (bV bs))(jz:∃a c,v = .slice a bs.length c∧bs.length≤c)(hl:bs.length≤9223372036854775807) :
    aE Tryz.prog 220 [v] [A] (fun r H=>∃rv,r = .tuple #[.int .u64 ((dr bs).1:Int),rv,.bool (dr bs).2.2]∧(Vw A rv (dr bs).2.1.length (bV (dr bs).2.1)∧∃a c,rv = .slice a (dr bs).2.1.length c∧(dr bs).2.1.length≤c)∧H=[A]):=by
  obtain⟨a0,c0,rfl,sO⟩:=jz
  refine aE.ao Tryz.func220 Tryz.ntmps220 fun G F R hE=>?_
  refine go ?_
  refine bB (fun s:Nat × Nat=>s.1≤bs.length∧s.1≤10∧(s.1≤9→s.2<2 ^ (7*s.1))∧og 0 0 bs=og s.1 s.2 (bs.drop s.1)) (fun s=>bs.length-s.1)
    (fun s=>[(0,.slice a0 bs.length c0),(5,.int .u64 (s.2:Int)),(8,.slice a0 bs.length c0),(9,.int .i64 bs.length),(10,.int .i64 s.1)])
    (fun _=>A::F) (0,0) ⟨Nat.zero_le _,ag,by simp,by simp⟩ rfl cg ah ?_
  rintro⟨i,acc⟩⟨hi,yM,wM,lK⟩ ih
  simp only at hi yM wM lK
  refine go ?_
  refine aq zr zr ?_ ?_
  case' refine_2 =>
    intro fA
    simp only at fA
    have XF:dr bs=(0,[],false):=by
      unfold dr;rw[lK,List.drop_eq_nil_of_le ag];simp[og]
    refine go ?_
    rw[XF]at hE
    first|refine ad hE Tryz.func220 zr zr ⟨_,rfl,⟨Ei A,none,0,rfl,Nat.le_refl _⟩,rfl⟩|refine bW hE Tryz.func220 rfl _ rfl ⟨_,rfl,⟨Ei A,none,0,rfl,Nat.le_refl _⟩,rfl⟩ ah
  intro de
  simp only at de
  have gl:i<bs.length:=by omega
  obtain⟨ba,oa,ca,gk⟩:=PA hv ag
  simp only[Value.slice.injEq,true_and]at gk
  obtain⟨rfl,rfl⟩:=gk
  obtain⟨c,hc⟩:∃c,bs[i]?=some c:=⟨bs[i],by simp⟩
  have Zi:bs.drop i=c::bs.drop (i+1):=by
    rw[List.drop_eq_getElem_cons gl];congr 1
    rw[List.getElem?_eq_getElem gl]at hc;exact Option.some.inj hc
  have Tw:c.toNat<256:=c.toNat_lt
  rw[Zi]at lK
  simp only[og]at lK
  refine go ?_
  refine bM i zr zr zr zr zr zr zr zr gl ?_
  refine bj 0 i zr zr zr hv rfl (pk hc) zr zr ?_
  repeat'(first|(with_reducible intro pM)|refine gy ?_|refine qL ?_ ?_|refine ie zr zr zr zr ?_ ?_|refine aq zr zr ?_ ?_)
  case' refine_1 =>
    have lL:(i=10∨(i=9∧1<c.toNat)):=by simp only at *;omega
  case' refine_2.refine_1.refine_1 =>
    have lL:(i=10∨(i=9∧1<c.toNat)):=by simp only at *;omega
  case' refine_2.refine_1.refine_2 => 
    have lE:¬(i=10∨(i=9∧1<c.toNat)):=by simp only at *;omega
  case' refine_2.refine_2 => 
    have lE:¬(i=10∨(i=9∧1<c.toNat)):=by simp only at *;omega
  any_goals (
    have XF:dr bs=(0,[],false):=by unfold dr;rw[lK,if_pos lL];rfl
    rw[XF]at hE
    (first|refine ad hE Tryz.func220 zr zr ⟨_,rfl,⟨Ei A,none,0,rfl,Nat.le_refl _⟩,rfl⟩|refine bW hE Tryz.func220 rfl _ rfl ⟨_,rfl,⟨Ei A,none,0,rfl,Nat.le_refl _⟩,rfl⟩ ah))
  all_goals(
    have hi9:i≤9:=by omega
    have hac:=wM hi9
    have Th:c.toNat%128<128:=Nat.mod_lt _ ag
    have HD:=QT (c:=c.toNat%128) hi9 hac Th (by intro h;omega)
    refine au 27 (.int .u8 ((c.toNat%128:Nat):Int)) rfl (congrArg (Value.int .u8) (CW _ Tw)) (go ?_)
    refine ib zr zr zr (by simp only[gq];omega) ?_
    refine au 30 (.int .i64 ((7*i:Nat):Int)) rfl (congrArg (Value.int .i64) (by simp only;omega)) ?_
    refine nB zr zr zr ag ?_
    refine au 31 (.int .u64 ((c.toNat%128*2 ^ (7*i):Nat):Int)) rfl (AN ag rfl ag) (go ?_)
    refine aX 5 (.int .u64 ((acc+c.toNat%128*2 ^ (7*i):Nat):Int)) rfl (congrArg (Value.int .u64) (W9 hac HD)) (go ?_)
    refine aq zr zr ?_ ?_
    · intro aeI
      have hcm:c.toNat%128=c.toNat:=by omega
      have Hl:dr bs=(acc+c.toNat%128*2 ^ (7*i),bs.drop (i+1),decide (i=0∨0<c.toNat)):=by
        unfold dr;rw[lK,if_neg lE,if_pos ag,hcm];rfl
      refine aF (fun w=>Sat G w ([])) (kM 0 14 .nil) rfl ak ak ak dT ?_
      refine go ?_
      refine bh (p:=(i:Int)+1) (q:=(bs.length:Int)) zr zr zr zr zr zr zr ag ag (.inl rfl) ?_
      refine au 39 (.slice (sliceAt (some ⟨ba,oa,none⟩) c0 (i+1) 1) (bs.drop (i+1)).length (c0-(i+1))) rfl (by rw[show((i:Int)+1).toNat=i+1 from by omega,show((bs.length:Int)).toNat=bs.length from by omega,List.length_drop];rfl) ?_
      have F':Vw A (.slice (sliceAt (some ⟨ba,oa,none⟩) c0 (i+1) 1) (bs.drop (i+1)).length (c0-(i+1))) (bs.drop (i+1)).length (bV (bs.drop (i+1))):=by
        have:=hv.Pp (s:=1) (by rw[bC];omega) sO (i+1) ag
        rw[List.length_drop,show bV (bs.drop (i+1))=(bV bs).drop ((i+1)*1)from by simp[bV,List.map_drop]]
        exact this
      rw[Hl]at hE
      repeat'(first|(with_reducible intro pM)|refine gy ?_|refine qL ?_ ?_|refine ie zr zr zr zr ?_ ?_|refine aq zr zr ?_ ?_)
      all_goals first
        | (have Li:i=0:=(by simp only at pM;omega)
           rw[decide_eq_true (Or.inl Li:i=0∨0<c.toNat)]at hE
           (first|refine ad hE Tryz.func220 zr zr ⟨_,rfl,⟨F',_,_,rfl,by simp only[List.length_drop];omega⟩,rfl⟩|refine bW hE Tryz.func220 rfl _ rfl ⟨_,rfl,⟨F',_,_,rfl,by simp only[List.length_drop];omega⟩,rfl⟩ ah))
        | (have Li:¬i=0:=(by simp only at pM;omega)
           rw[show decide (i=0∨0<c.toNat)=decide ((0:Int)<(c.toNat:Int))from decide_eq_decide.2 ⟨fun h=>by omega,fun h => .inr ag⟩]at hE
           (first|refine ad hE Tryz.func220 zr zr ⟨_,rfl,⟨F',_,_,rfl,by simp only[List.length_drop];omega⟩,rfl⟩|refine bW hE Tryz.func220 rfl _ rfl ⟨_,rfl,⟨F',_,_,rfl,by simp only[List.length_drop];omega⟩,rfl⟩ ah))
    · intro aen
      refine go ?_
      refine aM ih (i+1,acc+c.toNat%128*2 ^ (7*i)) rfl ⟨by simp only;omega,by simp only;omega,fun _=>IH hac Th,by rw[lK,if_neg lE,if_neg ag]⟩ (by simp only;omega) cg ah)
def eM(A:HP)(v:Value)(bs:List UInt8):Prop:=Vw A v bs.length (bV bs)∧∃a c,v = .slice a bs.length c∧bs.length≤c
def eM.cut{c:Nat}(h:eM A (.slice a n c) bs)(p:Nat)(hp:p≤bs.length):eM A (.slice (sliceAt a c p 1) (bs.length-p) (c-p)) (bs.drop p):=by
 obtain⟨hv,a',c',he,hc⟩:=h
 simp only[Value.slice.injEq]at he
 obtain⟨rfl,rfl,rfl⟩:=he
 refine⟨?_,_,_,by rw[List.length_drop],by rw[List.length_drop];omega⟩
 have:=hv.Pp (s:=1) (by rw[bC];omega) hc p hp
 rw[List.length_drop,show bV (bs.drop p)=(bV bs).drop (p*1)from by simp[bV,List.map_drop]]
 exact this
def eM.front{c:Nat}(h:eM A (.slice a n c) bs)(q:Nat)(hq:q≤bs.length):eM A (.slice (sliceAt a c 0 1) q c) (bs.take q):=by
 obtain⟨hv,a',c',he,hc⟩:=h
 simp only[Value.slice.injEq]at he
 obtain⟨rfl,rfl,rfl⟩:=he
 have hl:(bs.take q).length=q:=by rw[List.length_take];omega
 refine⟨?_,_,_,by rw[hl],by rw[hl];omega⟩
 have:=hv.aef (s:=1) q
 rw[hl,show bV (bs.take q)=(bV bs).take (q*1)from by simp[bV,List.map_take]]
 exact this
def eM.mono{B:HP}{v:Value}(h:eM A v bs)(Yi:∀h,B h→∃h',sub h' h∧A h'):eM B v bs:=⟨h.1.mono Yi,h.2⟩
def eM.piece{c:Nat}(h:eM A (.slice a n c) bs)(p q:Nat)(hp:p≤q)(hq:q≤bs.length):eM A (.slice (sliceAt a c p 1) (q-p) (c-p)) ((bs.drop p).take (q-p)):=by
 have h1:=h.cut p ag
 obtain⟨hv,a',c',he,hc⟩:=h1
 have hlen:((bs.drop p).take (q-p)).length=q-p:=by rw[List.length_take,List.length_drop];omega
 refine⟨?_,_,_,by rw[hlen],by rw[hlen];obtain⟨_,_,_,Al,mT⟩:=h;simp only[Value.slice.injEq]at Al;omega⟩
 obtain⟨a2,ny,Al,h0|⟨b,o,ha,mT⟩⟩:=hv
 ·simp only[Value.slice.injEq]at Al
  have:(bs.drop p)=[]:=by simpa[bV]using h0
  refine⟨_,_,by rw[hlen],.inl ?_⟩
  rw[this];simp[bV]
 ·simp only[Value.slice.injEq]at Al
  refine⟨_,_,by rw[hlen],.inr ⟨b,o,by rw[Al.1,ha],fun h' hA j x hj=>?_⟩⟩
  refine mT h' hA j x ?_
  rw[show bV ((bs.drop p).take (q-p))=(bV (bs.drop p)).take (q-p)from by simp[bV,List.map_take]]at hj
  rw[List.getElem?_take]at hj
  split at hj
  ·exact hj
  ·cases hj
def mD(A:HP)(v:Value)(bs:List UInt8)(hv:eM A v bs)(hl:bs.length≤9223372036854775807) :
  aE Tryz.prog 199 [v] [A] (fun r H=>r=(match di bs with
   | some n => .tuple #[.int .u64 (n:Int),.int .i64 0]
   | none => .tuple #[.int .u64 0,.int .i64 2])∧H=[A]):=by
 refine aE.ao Tryz.func199 Tryz.ntmps199 fun G F R hE=>?_
 refine go ?_
 refine aH (Jw A v bs hv.1 hv.2 hl) ?_
 rintro _ _⟨rv,rfl,⟨F',a,c,rfl,_⟩,rfl⟩
 cases kC:(dr bs).2.2 with
 | false =>
  have hn:di bs=none:=by unfold di;rw[if_neg (by rw[kC];simp)]
  rw[hn]at hE
  refine go ?_
  refine ad hE Tryz.func199 zr zr ⟨rfl,rfl⟩
 | true =>
  repeat'(first|(with_reducible intro pM)|refine gy ?_|refine aq zr zr ?_ ?_)
  ·have hn:di bs=none:=by unfold di;rw[if_neg (fun h=>by rw[h.2]at pM;simp at pM)]
   rw[hn]at hE
   refine ad hE Tryz.func199 zr zr ⟨rfl,rfl⟩
  ·have hn:di bs=some (dr bs).1:=by unfold di;rw[if_pos ⟨kC,List.eq_nil_of_length_eq_zero ag⟩]
   rw[hn]at hE
   refine ad hE Tryz.func199 zr zr ⟨rfl,rfl⟩
def aV(bs:List UInt8):List UInt8:=uv bs.length++bs
end Go.Proofs.YtedjnjkijiddlaaGreatDoor
namespace Go.Proofs.YtedjnjkijiddlaaGreatDoor
open Go Go.SL
def IJ{e:TypeId}{v:Value}{bs:List UInt8}(h0:∃h,aB e 1 v bs.length (bV bs) h):eM (aB e 1 v bs.length (bV bs)) v bs:=by
 refine⟨Vw.oT e 1 v bs.length (bV bs) h0,?_⟩
 obtain⟨h,hl,⟨a,rfl,hn,_⟩|⟨b,o,cap,pre,bT,rfl,hp,hn,hc,_⟩⟩:=h0
 ·exact⟨a,0,by rw[hn],ag⟩
 ·exact⟨_,cap,rfl,hn⟩
section
variable{P:Program}{f:FuncId}{n:Nat}{R:Ending→World→Prop}{G:cJ}{k:List Item}{L:fJ}{H:List HP}{S:World→Prop}{all:Array Oper}{rest:Pl}
def gQ{e:TypeId}{v:Value}{bs:List UInt8}(i:Nat)(hi:cE H i=some (aB e 1 v bs.length (bV bs)))(h:eM (aB e 1 v bs.length (bV bs)) v bs→J P f n R G S all rest k L H):J P f n R G S all rest k L H :=
 zK fun w hw=>by
  obtain⟨h1,_,hA⟩:=hw.lf hi
  exact h (IJ ⟨h1,hA⟩)
def qE{e:TypeId}{v:Value}{bs:List UInt8}(i:Nat)(hi:cE H i=some (aB e 1 v bs.length (bV bs)))(h:eM (aB e 1 v bs.length (bV bs)) v bs→K P f n R G k L H):K P f n R G k L H :=
 sk fun⟨w,hw⟩=>by
  obtain⟨h1,_,hA⟩:=hw.lf hi
  exact h (IJ ⟨h1,hA⟩)
end
def bg{H:List HP}{i:Nat}{A:HP}(hi:cE H i=some A):∀h,Sep H h→∃h',sub h' h∧A h':=fun h hs=>by
 rw[dM]at hi
 obtain⟨h',Rz,hA⟩:=al.perm (dj hi) h hs
 obtain⟨h1,h2,ha,_,hd,hj⟩:=hA
 refine⟨h1,fun b o hb=>?_,ha⟩
 refine Rz b o ?_
 rw[hj b,hb];rfl
end Go.Proofs.YtedjnjkijiddlaaGreatDoor
namespace Go.Proofs.YtedjnjkijiddlaaGreatDoor
open Go Go.SL
def me(x:Int × List UInt8):List UInt8:=UInt8.ofNat x.1.toNat::(uv x.2.length++x.2)
def eA(l:List (Int × List UInt8)):List UInt8:=l.flatMap me
def pU:Nat→List UInt8→List (Int × List UInt8)
 | 0,_=>[]
 | f+1,b=>match b with
  | []=>[]
  | c::r=>if(dr r).2.2=true∧(dr r).1≤(dr r).2.1.length then((c.toNat:Int),(dr r).2.1.take (dr r).1)::pU f ((dr r).2.1.drop (dr r).1)else [(0,[])]
def fF:Int→List (Int × List UInt8)→Bool
 | _,[]=>true
 | last,x::l=>decide (last<x.1) && decide (x.1≤63) && fF x.1 l
def pJ(b:List UInt8):Option (List (Int × List UInt8)):=if 65536<b.length then none else if fF 0 (pU b.length b)then some (pU b.length b)else none
structure It where
 n:Int
 v:Value
 b:List UInt8
instance:Inhabited It:=⟨⟨0,.slice none 0 0,[]⟩⟩
def lQ(x:It):List Value:=[.int .i64 x.n,x.v]
def js(x:It):(lQ x).length=2:=rfl
def It.p(x:It):Int × List UInt8:=(x.n,x.b)
def uD(X:HP)(v:Value)(l:List It):Prop:=Vw X v l.length (l.flatMap lQ)∧∀x∈l,eM X x.v x.b
def D2(a b:List (Int × List UInt8)):eA (a++b)=eA a++eA b:=by simp[eA]
def AS(l:List (Int × List UInt8))(i:Nat):(eA (l.take i)).length≤(eA l).length:=by
 conv=>rhs;rw[← List.take_append_drop i l]
 rw[D2,List.length_append];omega
def nQ(l:List (Int × List UInt8))(i:Nat):Int:=match (l.take i).getLast? with
 | some x=>x.1
 | none=>0
def Nr:∀(l:List (Int × List UInt8)) (last:Int) (i:Nat) (x:Int × List UInt8),fF last l=true→l[i]?=some x→(match (l.take i).getLast? with|some y=>y.1|none=>last)<x.1∧x.1≤63:=by
 intro l
 induction l with
 | nil=>intro last i x h hx;simp at hx
 | cons y l ih =>
  intro last i x h hx
  simp only[fF,Bool.and_eq_true,decide_eq_true_eq]at h
  cases i with
  | zero=>simp at hx;subst hx;simpa using h.1
  | succ i =>
   simp only[List.getElem?_cons_succ]at hx
   have:=ih y.1 i x h.2 hx
   rw[List.take_succ_cons]
   cases hl:l.take i with
   | nil=>rw[hl]at this;simpa using this
   | cons z r=>rw[hl]at this;rw[List.getLast?_cons_cons];exact this
def yz{l:List (Int × List UInt8)}{i:Nat}{x:Int × List UInt8}(h:l[i]?=some x):nQ l (i+1)=x.1:=by
 unfold nQ
 rw[List.take_add_one,h];simp
def Nq:∀(l:List (Int × List UInt8)) (last:Int),fF last l=true→0≤last→∀x∈l,0<x.1:=by
 intro l
 induction l with
 | nil=>intro last h h0 x hx;cases hx
 | cons y l ih =>
  intro last h h0 x hx
  simp only[fF,Bool.and_eq_true,decide_eq_true_eq]at h
  rcases List.mem_cons.1 hx with rfl|hx
  ·omega
  ·exact ih y.1 h.2 ag x hx
def Pq:∀(bs:List UInt8) (i acc n:Nat) (r:List UInt8) (ok:Bool),og i acc bs=some (n,r,ok)→r.length<bs.length:=by
 intro bs
 induction bs with
 | nil=>intro i acc n r ok h;simp[og]at h
 | cons c bs ih =>
  intro i acc n r ok h
  simp only[og]at h
  split at h
  ·cases h
  ·split at h
   ·simp only[Option.some.injEq,Prod.mk.injEq]at h
    rw[← h.2.1,List.length_cons];omega
   ·have:=ih _ _ n r ok h
    rw[List.length_cons];omega
def qv(bs:List UInt8):(dr bs).2.1.length≤bs.length:=by
 unfold dr
 cases h:og 0 0 bs with
 | none=>simp
 | some x =>
  obtain⟨n,r,ok⟩:=x
  have:=Pq bs 0 0 _ _ _ h
  simp only[Option.getD_some];omega
def AF:∀(f g:Nat) (b:List UInt8),b.length≤f→b.length≤g→pU f b=pU g b
 | 0,0,_,_,_=>rfl
 | 0,g+1,b,hf,_=>by
  have:b=[]:=List.eq_nil_of_length_eq_zero ag
  subst this;rfl
 | f+1,0,b,_,hg=>by
  have:b=[]:=List.eq_nil_of_length_eq_zero ag
  subst this;rfl
 | f+1,g+1,[],_,_=>rfl
 | f+1,g+1,c::r,hf,hg=>by
  rw[pU,pU]
  have:=qv r
  rw[List.length_cons]at hf hg
  split
  ·rw[AF f g _ (by rw[List.length_drop];omega) (by rw[List.length_drop];omega)]
  ·rfl
def eX(b:List UInt8):List (Int × List UInt8):=pU b.length b
def xL:eX []=[]:=rfl
def AG{c:UInt8}{r:List UInt8}(h:(dr r).2.2=true∧(dr r).1≤(dr r).2.1.length):eX (c::r)=((c.toNat:Int),(dr r).2.1.take (dr r).1)::eX ((dr r).2.1.drop (dr r).1):=by
 have h1:=qv r
 unfold eX
 rw[List.length_cons,pU]
 rw[if_pos h,AF _ _ _ (by rw[List.length_drop];omega) (Nat.le_refl _)]
def Dy{c:UInt8}{r:List UInt8}(h:¬((dr r).2.2=true∧(dr r).1≤(dr r).2.1.length)):eX (c::r)=[(0,[])]:=by
 unfold eX
 rw[List.length_cons,pU]
 rw[if_neg h]
def tq:∀(f:Nat) (b:List UInt8),b.length≤f→(eX b).length≤b.length
 | 0,b,h=>by
  have:b=[]:=List.eq_nil_of_length_eq_zero ag
  subst this;simp[xL]
 | f+1,[],_=>by simp[xL]
 | f+1,c::r,h=>by
  have h1:=qv r
  rw[List.length_cons]at h
  by_cases hk:(dr r).2.2=true∧(dr r).1≤(dr r).2.1.length
  ·have h2:=tq f ((dr r).2.1.drop (dr r).1) (by rw[List.length_drop];omega)
   rw[List.length_drop]at h2
   rw[AG hk,List.length_cons,List.length_cons]
   omega
  ·rw[Dy hk,List.length_cons];simp
def tV(xs:List (Int × List UInt8))(i:Nat):Bool:=match xs[i]? with
 | some x=>decide (nQ xs i<x.1) && decide (x.1≤63)
 | none=>true
def yY{xs:List (Int × List UInt8)}{i:Nat}{x:Int × List UInt8}(h:xs[i]?=some x):tV xs i=(decide (nQ xs i<x.1) && decide (x.1≤63)):=by unfold tV;rw[h]
def Ns:∀(l:List (Int × List UInt8)) (last:Int),(fF last l=true↔∀i x,l[i]?=some x→(match (l.take i).getLast? with|some y=>y.1|none=>last)<x.1∧x.1≤63):=by
 intro l
 induction l with
 | nil=>intro last;simp[fF]
 | cons y l ih =>
  intro last
  simp only[fF,Bool.and_eq_true,decide_eq_true_eq,ih]
  constructor
  ·rintro⟨⟨h1,h2⟩,h3⟩ i x hx
   cases i with
   | zero=>simp at hx;subst hx;exact⟨h1,h2⟩
   | succ i =>
    have:=h3 i x (by simpa using hx)
    rw[List.take_succ_cons]
    cases hl:l.take i with
    | nil=>rw[hl]at this;simpa using this
    | cons z r=>rw[hl]at this;rw[List.getLast?_cons_cons];exact this
  ·intro h
   refine⟨by simpa using h 0 y rfl,fun i x hx=>?_⟩
   have:=h (i+1) x (by simpa using hx)
   rw[List.take_succ_cons]at this
   cases hl:l.take i with
   | nil=>rw[hl]at this;simpa using this
   | cons z r=>rw[hl,List.getLast?_cons_cons]at this;exact this
def AQ(xs:List (Int × List UInt8)):fF 0 xs=true↔∀i,i<xs.length→tV xs i=true:=by
 rw[Ns]
 constructor
 ·intro h i hi
  have hx:xs[i]?=some xs[i]:=by simp
  rw[yY hx,Bool.and_eq_true,decide_eq_true_eq,decide_eq_true_eq]
  exact h i _ hx
 ·intro h i x hx
  have:=h i (List.getElem?_eq_some_iff.1 hx).1
  rw[yY hx,Bool.and_eq_true,decide_eq_true_eq,decide_eq_true_eq]at this
  exact this
def cQ(b:List UInt8):Dg:=cm 0 [b]
def e8(l r:Dg):Dg:=cm 1 [l.bs,r.bs]
def bF:List Dg→List Dg
 | a::b::r=>e8 a b::bF r
 | l=>l
def cU:∀l:List Dg,(bF l).length=(l.length+1)/2
 | []=>rfl
 | [a]=>by simp[bF]
 | a::b::r=>by simp only[bF,List.length_cons,cU r];omega
def pt:∀(l:List Dg) (i:Nat),(bF l)[i]?=match l[2*i]?,l[2*i+1]? with
  | some a,some b=>some (e8 a b)
  | x,_=>x
 | [],i=>by simp[bF]
 | [a],i=>by
  cases i with
  | zero=>rfl
  | succ i=>simp[bF,show 2*(i+1)=2*i+1+1 from by omega]
 | a::b::r,i=>by
  cases i with
  | zero=>rfl
  | succ i =>
   simp only[bF,List.getElem?_cons_succ,show 2*(i+1)=2*i+1+1 from by omega]
   exact pt r i
def SM:Nat→List Dg→List Dg
 | 0,l=>l
 | f+1,l=>if l.length≤1 then l else SM f (bF l)
def rO(l:List Dg):Dg:=if l=[]then cm 2 []else((SM l.length l).head?).getD Dg.zero
structure Bl where
 d:Dg
 size:Int
 piece:Int
 root:Dg
deriving DecidableEq
instance:Inhabited Bl:=⟨⟨Dg.zero,0,0,Dg.zero⟩⟩
def Bl.zero:Bl:=⟨Dg.zero,0,0,Dg.zero⟩
def bH(x:Bl):List Value:=dC x.d++[.int .i64 x.size,.int .i64 x.piece]++dC x.root
def CN(x:Bl):(bH x).length=66:=rfl
def bz(x:Bl):Bool:=decide (1≤x.size∧x.size≤1048576∧16≤x.piece∧x.piece≤16384∧(x.size+x.piece-1)/x.piece≤1024)
def bO(x:Bl):Int:=if bz x then(x.size+x.piece-1)/x.piece else 0
def cC(x:Bl)(i:Int):Option (Int × Int):=if i<0∨bO x≤i then none else some (i*x.piece,min x.piece (x.size-i*x.piece))
def gC(k:Nat):Nat→List UInt8→List (List UInt8)
 | 0,_=>[]
 | f+1,b=>if b=[]then []else b.take k::gC k f (b.drop k)
def cM(b:List UInt8)(piece:Int):Option (List Dg):=if bz ⟨Dg.zero,b.length,piece,Dg.zero⟩then some ((gC piece.toNat b.length b).map cQ)else none
def eu(b:List UInt8)(piece:Int):Option Bl:=(cM b piece).map fun l=>⟨dK b,b.length,piece,rO l⟩
def dX(x:Bl)(b:List UInt8):Bool:=decide (eu b x.piece=some x)
def pS:List Bl→Bool
 | []=>false
 | x::l=>l.any (fun y=>decide (y.d=x.d)) || pS l
def gX(l:List Bl):Nat:=if l.length<1∨16<l.length∨l.any (fun x => !bz x)=true then 1 else if pS l then 5 else 0
def dY(x:Bl):List (Int × List UInt8):=[(1,x.d.bs),(2,uv x.size.toNat),(3,uv x.piece.toNat),(4,x.root.bs)]
def jx:Nat→List Bl→List (Int × List UInt8)
 | _,[]=>[]
 | i,x::l=>((i:Int)+1,eA (dY x))::jx (i+1) l
def zd(l:List Bl):List UInt8:=eA (jx 0 l)
def yo(l:List Bl):Dg:=dK (zd l)
def ue(b:List UInt8):Dg:=if h:b.length=32 then⟨b,h⟩else Dg.zero
def mA(b:List UInt8):Option Bl:=match pJ b with
 | some [(_,a),(_,s),(_,p),(n,r)]=>if n≠4∨a.length≠32∨r.length≠32 then none else match di s,di p with
  | some s,some p=>if 1048576<max s p then none else some ⟨ue a,s,p,ue r⟩
  | _,_=>none
 | _=>none
def iS:Nat→List (Int × List UInt8)→Option (List Bl)
 | _,[]=>some []
 | i,(n,b)::l=>match mA b with
  | some x=>if n≠(i:Int)+1 then none else(iS (i+1) l).map (x::·)
  | none=>none
def zh(b:List UInt8):Option (List Bl):=match pJ b with
 | some l=>match iS 0 l with
  | some x=>if gX x=0 then some x else none
  | none=>none
 | none=>none
def IB{n:Nat}(h:n≤1048576):(uv n).length≤3:=xF 2 n ag
def yD(x:Bl)(h:bz x=true):(eA (dY x)).length≤78:=by
 simp only[bz,decide_eq_true_eq]at h
 have h1:=IB (n:=x.size.toNat) ag
 have h2:=IB (n:=x.piece.toNat) ag
 have h3:uv 32=[32]:=by rw[gh ag];rfl
 have h4:(uv (uv x.size.toNat).length).length=1:=by rw[gh ag];rfl
 have h5:(uv (uv x.piece.toNat).length).length=1:=by rw[gh ag];rfl
 simp only[eA,dY,me,List.flatMap_cons,List.flatMap_nil,List.length_append,List.length_cons,List.length_nil,x.d.len,x.root.len,h3,h4,h5]
 omega
def vW:∀(l:List Bl) (i:Nat),i+l.length≤63→fF (i:Int) (jx i l)=true
 | [],i,_=>rfl
 | x::l,i,h=>by
  rw[List.length_cons]at h
  simp only[jx,fF,Bool.and_eq_true,decide_eq_true_eq]
  refine⟨⟨ag,ag⟩,?_⟩
  have:=vW l (i+1) ag
  rw[Int.natCast_add]at this
  exact this
def yB:∀(l:List Bl) (i:Nat),(∀x∈l,bz x=true)→(eA (jx i l)).length≤80*l.length
 | [],i,_=>by simp[jx,eA]
 | x::l,i,h=>by
  have h1:=yD x (h x (List.mem_cons_self ..))
  have h2:=yB l (i+1) fun y hy=>h y (List.mem_cons_of_mem _ hy)
  have h3:(uv (eA (dY x)).length).length=1:=by rw[gh ag];rfl
  simp only[eA]at h1 h2 h3
  simp only[jx,eA,List.flatMap_cons,List.length_append,me,List.length_cons,h3]
  omega
def oZ{l:List Bl}(h:gX l=0):l.length≤16∧1≤l.length∧∀x∈l,bz x=true:=by
 unfold gX at h
 split at h
 ·cases h
 ·rename_i h1
  rw[not_or,not_or]at h1
  refine⟨ag,ag,fun x hx=>?_⟩
  have:=h1.2.2
  simp only[Bool.not_eq_true,List.any_eq_false,Bool.not_eq_true',Bool.not_eq_false]at this
  have:=this x hx
  simpa using this
def Fe{l:List Bl}(h:gX l=0):(zd l).length≤1280:=by
 obtain⟨h1,h2,h3⟩:=oZ h
 have:=yB l 0 h3
 unfold zd;omega
def HR{b:List UInt8}{l:List Bl}(h:zh b=some l):gX l=0:=by
 unfold zh at h
 split at h
 ·split at h
  ·split at h
   ·cases h;assumption
   ·cases h
  ·cases h
 ·cases h
end Go.Proofs.YtedjnjkijiddlaaGreatDoor
namespace Go.SL
open Go
def BV(n:Nat):UInt8:=UInt8.ofNat (if n<10 then 48+n else 87+n)
def ly(c:UInt8):Option Nat:=if 48≤c.toNat∧c.toNat≤57 then some (c.toNat-48)else if 97≤c.toNat∧c.toNat≤102 then some (c.toNat-87)else none
def lJ(s:List UInt8)(i:Nat):Nat:=(ly (s.getD i 0)).getD 0
def vH(d:Dg)(i:Nat):UInt8:=BV (if i%2=0 then(d.at (i/2)).toNat/16 else(d.at (i/2)).toNat%16)
def g8(d:Dg):List UInt8:=(List.range 64).map (vH d)
def jD(d:Dg):(g8 d).length=64:=by simp[g8]
def nE(d:Dg){i:Nat}(h:i<64):(g8 d)[i]?=some (vH d i):=by simp[g8,h]
def F9(s:List UInt8)(i:Nat):List UInt8:=(List.range 32).map fun j=>UInt8.ofNat (if 2*j+1<i then 16*lJ s (2*j)+lJ s (2*j+1)else if 2*j<i then lJ s (2*j)else 0)
def kO(s:List UInt8)(i:Nat):(F9 s i).length=32:=by simp[F9]
def qT(s:List UInt8)(i:Nat){j:Nat}(h:j<32):(F9 s i)[j]?=some (UInt8.ofNat (if 2*j+1<i then 16*lJ s (2*j)+lJ s (2*j+1)else if 2*j<i then lJ s (2*j)else 0)):=by simp[F9,h]
def NP(s:List UInt8):F9 s 0=List.replicate 32 0:=by
 apply List.ext_getElem?
 intro j
 rcases Nat.lt_or_ge j 32 with h|h
 ·rw[qT s 0 h,List.getElem?_replicate,if_pos h];simp
 ·rw[List.getElem?_eq_none (by rw[kO];exact h),List.getElem?_eq_none (by simpa using h)]
def RQ{c:UInt8}{v:Nat}(h:ly c=some v):v<16:=by
 unfold ly at h
 split at h
 ·cases h;omega
 split at h
 ·cases h;omega
 ·cases h
def Cn(s:List UInt8)(i:Nat):lJ s i<16:=by
 unfold lJ
 cases h:ly (s.getD i 0)with
 | none=>simp
 | some v=>exact RQ h
def O1{n:Nat}(h:n<16):ly (BV n)=some n:=by
 have:∀n:Nat,n<16→ly (BV n)=some n:=by decide
 exact this n h
def Nd{c:UInt8}{v:Nat}(h:ly c=some v):BV v=c:=by
 apply UInt8.toNat.inj
 unfold ly at h
 unfold BV
 simp only[UInt8.toNat_ofNat']
 split at h
 ·cases h;rw[if_pos ag];omega
 split at h
 ·cases h;rw[if_neg ag];omega
 ·cases h
def jS(s:List UInt8):Option Dg:=if s.length=64∧∀c∈s,ly c≠none then some ⟨F9 s 64,kO s 64⟩else none
def xi{s:List UInt8}{i:Nat}{c:UInt8}(h:s[i]?=some c):s.getD i 0=c:=by rw[List.getD_eq_getElem?_getD,h];rfl
def tx(d:Dg)(i:Nat):ly (vH d i)=some (if i%2=0 then(d.at (i/2)).toNat/16 else(d.at (i/2)).toNat%16):=by
 have:=(d.at (i/2)).toNat_lt
 exact O1 (by split <;> omega)
def Dg.PB(d:Dg){j:Nat}(h:j<32):d.bs[j]?=some (d.at j):=by
 unfold Dg.at
 rw[List.getD_eq_getElem?_getD,List.getElem?_eq_getElem (by rw[d.len];exact h)];rfl
def GZ(d:Dg):jS (g8 d)=some d:=by
  unfold jS
  rw[if_pos ⟨jD d,fun c hc=>by
    obtain⟨i,hi,rfl⟩:=List.mem_map.1 hc
    rw[tx];simp⟩]
  congr 1
  obtain⟨bs,hl⟩:=d
  simp only[Dg.mk.injEq]
  apply List.ext_getElem?
  intro j
  rcases Nat.lt_or_ge j 32 with h|h
  · rw[qT _ _ h,if_pos ag,(⟨bs,hl⟩:Dg).PB h]
    unfold lJ
    rw[xi (nE _ (show 2*j<64 by omega)),xi (nE _ (show 2*j+1<64 by omega)),tx,tx]
    simp only[Option.getD_some,Option.some.injEq]
    rw[if_pos ag,if_neg ag,show 2*j/2=j from by omega,show(2*j+1)/2=j from by omega]
    apply UInt8.toNat.inj
    simp only[UInt8.toNat_ofNat']
    have:=((⟨bs,hl⟩:Dg).at j).toNat_lt
    omega
  · rw[List.getElem?_eq_none (by rw[kO];exact h),List.getElem?_eq_none (by rw[hl];exact h)]
def Gs{s:List UInt8}{d:Dg}(h:jS s=some d):s=g8 d:=by
 unfold jS at h
 split at h
 ·rename_i hs
  cases h
  apply List.ext_getElem?
  intro i
  rcases Nat.lt_or_ge i 64 with hi|hi
  ·rw[nE _ hi]
   obtain⟨c,hc⟩:∃c,s[i]?=some c:=⟨s[i],List.getElem?_eq_getElem ag⟩
   rw[hc]
   congr 1
   obtain⟨v,hv⟩:=Option.ne_none_iff_exists'.1 (hs.2 c (List.mem_of_getElem? hc))
   rw[← Nd hv]
   unfold vH
   congr 1
   have QE:(Dg.at ⟨F9 s 64,kO s 64⟩ (i/2))=UInt8.ofNat (16*lJ s (2*(i/2))+lJ s (2*(i/2)+1)):=by
    unfold Dg.at
    rw[xi (qT s 64 (show i/2<32 by omega)),if_pos ag]
   rw[QE]
   have h1:=Cn s (2*(i/2))
   have h2:=Cn s (2*(i/2)+1)
   have h3:lJ s i=v:=by unfold lJ;rw[xi hc,hv];rfl
   simp only[UInt8.toNat_ofNat']
   split
   ·rename_i he
    rw[show 2*(i/2)=i from by omega]at h1 h2 ⊢
    omega
   ·rename_i he
    rw[show 2*(i/2)+1=i from by omega]at h2 ⊢
    omega
  ·rw[List.getElem?_eq_none ag,List.getElem?_eq_none (by rw[jD];exact hi)]
 ·cases h
def df(kind:List UInt8)(d:Dg):ByteArray:=strOf (kind++g8 d)
def jJ(kind:List UInt8)(name:ByteArray):Option Dg:=if kind.isPrefixOf name.data.toList then jS (name.data.toList.drop kind.length)else none
def sy(l:List UInt8):(strOf l).data.toList=l:=by simp[strOf]
def rk{kind:List UInt8}{name:ByteArray}{d:Dg}:jJ kind name=some d↔name=df kind d:=by
 unfold jJ df
 constructor
 ·intro h
  split at h
  ·rename_i hp
   have h2:=Gs h
   obtain⟨t,ht⟩:=List.isPrefixOf_iff_prefix.1 hp
   rw[← ht,List.drop_left]at h2
   subst h2
   rw[ht,xS]
  ·cases h
 ·rintro rfl
  rw[sy,if_pos (List.isPrefixOf_iff_prefix.2 ⟨_,rfl⟩),List.drop_left,GZ]
def yU(kind:List UInt8)(d:Dg):jJ kind (df kind d)=some d:=rk.2 rfl
def Br{k:List UInt8}{a b:Dg}(h:df k a=df k b):a=b:=by
 have:=yU k a
 rw[h,yU]at this
 exact(Option.some.inj this).symm
def zc{j k:List UInt8}{a b:Dg}(hl:j.length=k.length)(h:df j a=df k b):j=k:=by
 unfold df at h
 have:=AH.1 h
 exact(List.append_inj this hl).1
end Go.SL
namespace Go.Proofs.YtedjnjkijiddlaaGreatDoor
open Go Go.SL
variable{A:Ab}{s:ByteArray}{H:List HP}{f i:Nat}{w:World}{G:cJ}
def ptr(f:Nat):Value := .pointer (some ⟨f,0,none⟩)
attribute [local irreducible] J K aE Ends ae aB aP bP bq
def lk(A:HP)(v:Value)(bs:List UInt8)(hv:Vw A v bs.length (bV bs))(hlen:bs.length≤1000000000) :
  aE Tryz.prog 105 [v] [A] (fun r H=>H=[aB 5 1 r bs.length (bV bs),A]):=by
 obtain⟨a,c0,rfl⟩:=hv.shape
 cases a with
 | none =>
  have hb:bs=[]:=by
   obtain⟨a,cap,h1,h2|⟨b,o,h2,_⟩⟩:=hv
   ·simpa[bV]using h2
   ·simp only[Value.slice.injEq]at h1;rw[← h1.1]at h2;cases h2
  subst hb
  refine aE.enter Tryz.func105 ak rfl Tryz.ntmps105 zr zr ?_
  intro G F R hR
  refine go ?_
  have he:c0=c0:=rfl
  refine ai (bN 5 1 none _) ?_
  refine aL hR Tryz.func105 rfl _ zr zr (al.fin [0,1] 0 zr zr)
 | some a =>
  refine aE.enter Tryz.func105 ak rfl Tryz.ntmps105 zr zr ?_
  intro G F R hR
  refine go ?_
  refine aj zr zr zr zr zr zr zr zr zr bD ?_
  intro b0
  refine go ?_
  refine aI (eJ 5 1 b0 0 0 [] [] _ rfl (Nat.le_refl _) (by simp)) ?_
  refine aR (mm:=bs.length) (news:=bV bs) 0 1 zr zr zr zr zr zr zr zr zr zr zr zr hv (by show _=_*1;rw[bC];omega) (cX bs) ag (by show _*1≤_;omega) (fun _=>rfl) bD ?_
  intro v'
  have e1:(0:Nat)+bs.length=bs.length:=by omega
  rw[e1,List.nil_append]
  refine go ?_
  refine aL hR Tryz.func105 rfl _ zr zr (al.fin [0,1] 0 zr zr)
def wO(A X:HP)(v:Value)(bs:List UInt8)(hv:Vw A v bs.length (bV bs))(hlen:bs.length≤9223372036854775807)(g:FuncId)(cap:List Value)(p:UInt8→Bool)(hf:∀x∈bs,aE Tryz.prog g (u8 x::cap) [X] (fun v H=>v = .bool (p x)∧H=[X])) :
  aE Tryz.prog 221 [v,.func (.func g) #[] cap.toArray] [A,X] (fun r H=>r = .int .i64 (kA p bs)∧H=[A,X]):=by
 obtain⟨a,c0,rfl⟩:=hv.shape
 refine aE.enter Tryz.func221 ak rfl Tryz.ntmps221 zr zr ?_
 intro G F R hR
 refine go ?_
 refine bB (fun i:Nat=>i≤bs.length∧∀y∈bs.take i,p y=false) (fun i=>bs.length-i) (fun i=>[(0,.slice a bs.length c0),(1,.func (.func g) #[] cap.toArray),(7,.int .i64 bs.length),(8,.int .i64 i)]) (fun _=>[A,X]++F) 0 ⟨by simp,by simp⟩ rfl cg (al.refl _) ?_
 rintro i⟨hi,hb⟩ ih
 refine go ?_
 refine aq zr zr ?_ ?_
 ·intro de
  refine go ?_
  have gl:i<bs.length:=by omega
  obtain⟨b,o,gM,gk⟩:=hv.some (by rw[← List.length_pos_iff,bC];omega)
  simp only[Value.slice.injEq]at gk
  obtain⟨rfl,_,rfl⟩:=gk
  refine bM i zr zr zr zr zr zr zr zr gl ?_
  have hx:bs[i]?=some bs[i]:=by simp[gl]
  refine ux (U:=aQ) 0 zr zr zr (hv.cell (pk hx)) zr zr ?_
  refine cF [1] zr zr zr zr (hf bs[i] (List.getElem_mem gl)) rfl mM ?_
  rintro _ _⟨rfl,rfl⟩
  refine go ?_
  refine fR zr zr ?_ ?_
  ·intro hp
   refine go ?_
   refine aL hR Tryz.func221 rfl _ rfl ⟨by rw[nT hx hp hb];rfl,rfl⟩ (al.fin [1,0] 0 zr zr)
  ·intro hp
   refine go ?_
   refine aM ih (i+1) rfl ⟨ag,uh hb hx hp⟩ ag cg (al.pick [1,0] rfl)
 ·intro fA
  refine go ?_
  have:i=bs.length:=by omega
  subst this
  refine aL hR Tryz.func221 rfl _ rfl ⟨by rw[re (fun x hx=>hb x (by simpa using hx))];rfl,rfl⟩ (al.fin [0,1] 0 zr zr)
def Xc(x:UInt8):Bool:=decide (97≤x.toNat∧x.toNat≤122∨48≤x.toNat∧x.toNat≤57∨x.toNat=45∨x.toNat=46)
def Kq(X:HP)(x:UInt8):aE Tryz.prog 200 [u8 x] [X] (fun v H=>v = .bool (!Xc x)∧H=[X]):=by
 refine aE.enter Tryz.func200 ak rfl Tryz.ntmps200 zr zr ?_
 intro G F R hR
 have hx:=Zw x
 repeat'(first|(with_reducible intro pM)|refine gy ?_|refine ie zr zr zr zr ?_ ?_|fail)
 all_goals refine aL hR Tryz.func200 rfl _ rfl ⟨congrArg Value.bool (by rw[Bool.eq_iff_iff];simp[Xc];omega),rfl⟩ (al.fin [0] 0 zr zr)
def s9(A X:HP)(v:Value)(bs:List UInt8)(hv:Vw A v bs.length (bV bs))(hlen:bs.length≤9223372036854775807)(g:FuncId)(cap:List Value)(p:UInt8→Bool)(hf:∀x∈bs,aE Tryz.prog g (u8 x::cap) [X] (fun v H=>v = .bool (p x)∧H=[X])) :
  aE Tryz.prog 201 [v,.func (.func g) #[] cap.toArray] [A,X] (fun r H=>r = .bool (bs.any p)∧H=[A,X]):=by
 refine aE.enter Tryz.func201 ak rfl Tryz.ntmps201 zr zr ?_
 intro G F R hR
 refine go ?_
 refine cF [0,1] zr zr zr zr (wO A X v bs hv hlen g cap p hf) rfl mM ?_
 rintro _ _⟨rfl,rfl⟩
 refine go ?_
 have hb:decide (0≤kA p bs)=bs.any p:=by
  have := @nU _ p bs
  cases h:bs.any p with
  | false=>rw[h]at this;exact decide_eq_false (by have:=this.2 rfl;omega)
  | true =>
   rw[h]at this
   have h2:¬kA p bs<0:=fun h3=>by cases this.1 h3
   exact decide_eq_true ag
 refine aL hR Tryz.func201 rfl _ rfl ⟨congrArg Value.bool hb,rfl⟩ (al.fin [0,1] 0 zr zr)
def isName(s:ByteArray):Bool:=decide (1≤s.size∧s.size≤80) && s.data.toList.all Xc
def KY(h1:1≤s.size)(h2:s.size≤80):isName s = !(s.data.toList.any fun x => !Xc x):=by
 simp[isName,h1,h2,List.all_eq_not_any_not]
def Cm(h1:s.size<1):isName s=false:=by simp[isName];omega
def Ez(h1:80<s.size):isName s=false:=by simp[isName];omega
def jE(A:HP)(v:Value)(l:List ByteArray)(hv:Vw A v l.length (l.map Value.string))(hlen:l.length≤1000000) :
  aE Tryz.prog 148 [v] [A] (fun r H=>r = .bool (l.all isName)∧H=[A]):=by
 obtain⟨a,c0,rfl⟩:=hv.shape
 refine aE.enter Tryz.func148 ak rfl Tryz.ntmps148 zr zr ?_
 intro G F R hR
 refine ai (al.qA _) (go ?_)
 refine bB (fun i:Nat=>i≤l.length∧∀y∈l.take i,isName y=true) (fun i=>l.length-i) (fun i=>[(3,.func (.func 200) #[] #[]),(6,.slice a l.length c0),(7,.int .i64 l.length),(8,.int .i64 i)]) (fun _=>emp::([A]++F)) 0 ⟨by simp,by simp⟩ rfl cg (al.refl _) ?_
 rintro i⟨hi,hb⟩ ih
 refine go ?_
 refine aq zr zr ?_ ?_
 ·intro de
  refine go ?_
  have gl:i<l.length:=by omega
  obtain⟨b,o,gM,gk⟩:=hv.some (by rw[← List.length_pos_iff,List.length_map];omega)
  simp only[Value.slice.injEq]at gk
  obtain⟨rfl,_,rfl⟩:=gk
  refine bM i zr zr zr zr zr zr zr zr gl ?_
  obtain⟨s,hs⟩:∃s,l[i]?=some s:=⟨l[i],by simp[gl]⟩
  refine ux (U:=aQ) 1 zr zr zr (hv.cell (c := .string s) (by simp[hs])) zr zr ?_
  have fz:s∈l:=List.mem_of_getElem? hs
  repeat'(first|(with_reducible intro pM)|refine gy ?_|refine ie zr zr zr zr ?_ ?_|fail)
  ·have hn:l.all isName=false:=by
    rw[← Bool.not_eq_true,List.all_eq_true];intro h
    have h1:=h s fz;rw[Cm ag]at h1;cases h1
   refine aL hR Tryz.func148 rfl _ rfl ⟨congrArg Value.bool hn.symm,rfl⟩ (al.fin [1] 1 zr zr)
  ·have hn:l.all isName=false:=by
    rw[← Bool.not_eq_true,List.all_eq_true];intro h
    have h1:=h s fz;rw[Ez ag]at h1;cases h1
   refine aL hR Tryz.func148 rfl _ rfl ⟨congrArg Value.bool hn.symm,rfl⟩ (al.fin [1] 1 zr zr)
  ·have lD:=KY (s:=s) ag ag
   refine Me (U:=aQ) zr zr zr zr zr zr zr zr (fun _ _ _ _=>trivial) ?_
   intro bb cc
   refine go ?_
   refine cF [0,1] zr zr zr zr (s9 (bq bb s _ cc) emp _ s.data.toList (by simpa using GA bb s _ cc cc) (by simp;omega) _ [] _ (fun x _=>Kq emp x)) rfl mM ?_
   rintro _ _⟨rfl,rfl⟩
   refine go ?_
   refine fR zr zr ?_ ?_
   ·intro ht
    refine go ?_
    have hn:l.all isName=false:=by
     rw[← Bool.not_eq_true,List.all_eq_true];intro h
     have h1:=h s fz;rw[lD,ht]at h1;cases h1
    refine aL hR Tryz.func148 rfl _ rfl ⟨congrArg Value.bool hn.symm,rfl⟩ (al.fin [2] 2 zr zr)
   ·intro hf
    refine go ?_
    refine aM ih (i+1) rfl ⟨ag,uh hb hs (by rw[lD,hf];rfl)⟩ ag cg (al.to [1,2] 1 zr zr zr)
 ·intro fA
  refine go ?_
  have:i=l.length:=by omega
  subst this
  refine aL hR Tryz.func148 rfl _ rfl ⟨congrArg Value.bool (by rw[eq_comm,List.all_eq_true];intro x hx;exact hb x (by simpa using hx)),rfl⟩ (al.fin [1] 1 rfl rfl)
def uL(A:HP)(v1 v2:Value)(old b:List UInt8)(at_:Nat)(h1:Vw A v1 old.length (bV old))(h2:Vw A v2 b.length (bV b))(hb:old.length+at_+b.length≤1000000000) :
  aE Tryz.prog 57 [v1,.int .i64 at_,v2] [A] (fun r H=>∃bl cap,r = .slice (some ⟨bl,0,none⟩) (bK old at_ b).length cap∧(bK old at_ b).length≤cap∧H=[ae bl (cl (bV (bK old at_ b)) 5),A]):=by
 obtain⟨a1,c1,rfl⟩:=h1.shape
 obtain⟨a2,c2,rfl⟩:=h2.shape
 refine aE.enter Tryz.func57 ak rfl Tryz.ntmps57 zr zr ?_
 intro G F R hR
 refine go ?_
 have hN:(max old.length (at_+b.length):Nat)=max old.length (at_+b.length):=rfl
 generalize hM:max old.length (at_+b.length)=M at *
 refine au 14 (.int .i64 (M:Int)) rfl (congrArg (Value.int .i64) ag) ?_
 refine nh (U:=aQ) (p:=M) (q:=M) zr zr zr zr zr zr zr zr zr (Nat.le_refl _) ag (by show 1*M≤_;omega) bD ?_
 intro bl
 refine go ?_
 refine P' (U:=aQ) (src:=bV old) (mm:=old.length) (l':=bV (old++List.replicate (M-old.length) 0)) 0 1 zr zr zr zr zr zr zr zr h1 (by show _=_*1;rw[bC];omega) (cX old) (by show 0+_*1≤_;simp;omega) ?_ rfl gB ?_
 ·show bV (old++List.replicate (M-old.length) 0)=List.take 0 (List.replicate M (Value.int .u8 0))++List.take (min old.length M*1) (bV old)++List.drop (0+min old.length M*1) (List.replicate M (Value.int .u8 0))
  have e:min old.length M*1=old.length:=by omega
  rw[e,List.take_of_length_le (l:=bV old) (by rw[bC];omega)]
  simp[bV,u8]
 refine go ?_
 refine lT zr zr zr zr zr zr zr ag ag (.inl rfl) ?_
 intro o' ON Y9
 have hA:at_≠M→o'=at_:=fun h=>by have:=ON (by simpa using h);rw[this];show 0+(at_:Int).toNat*1=at_;simp
 have hB:at_=M→o'=0:=fun h=>Y9 (by simpa using h)
 clear ON Y9
 have K8:(min b.length ((M:Int).toNat-(at_:Int).toNat))*1=b.length:=by simp;omega
 refine go ?_
 refine P' (U:=aQ) (src:=bV b) (mm:=b.length) (l':=bV (bK old at_ b)) 0 1 zr zr zr zr zr zr zr zr h2 (by show _=_*1;rw[bC];omega) (cX b) ?_ ?_ rfl gB ?_
 ·show o'+(min b.length ((M:Int).toNat-(at_:Int).toNat))*1≤_
  rw[K8];simp only[bC,List.length_append,List.length_replicate]
  by_cases h:at_=M
  ·have:=hB h;omega
  ·have:=hA h;omega
 ·show bV (bK old at_ b)=List.take o' _++List.take (min b.length ((M:Int).toNat-(at_:Int).toNat)*1) (bV b)++List.drop (o'+min b.length ((M:Int).toNat-(at_:Int).toNat)*1) _
  rw[K8,List.take_of_length_le (l:=bV b) (by rw[bC];omega)]
  have Xv:at_+b.length-old.length=M-old.length:=by omega
  unfold bK
  rw[Xv]
  by_cases h:at_=M
  ·have h3:=hB h
   have h4:b=[]:=List.eq_nil_of_length_eq_zero ag
   subst h4;subst h3
   simp[bV,h]
  ·rw[hA h]
   simp[bV]
 ·have hl:(bK old at_ b).length=M:=by unfold bK;simp;omega
  rw[← hl]
  refine go ?_
  refine aL hR Tryz.func57 rfl _ rfl ⟨bl,_,rfl,Nat.le_refl _,rfl⟩ (al.fin [0,1] 0 zr zr)
attribute [local irreducible] aS aZ
def eS(l:List (ByteArray × Nat)):List (ByteArray × Value):=l.map fun x=>(x.1,ptr x.2)
structure Dk where
 room:Nat
 bm:Nat
 kM:Value
 oH:Value
 nK:Value
 off:Bool
 maps:List (Nat × List (ByteArray × Value))
 ec:fU
 files:List (Nat × Value × Value)
 gF:List Nat
 wl:List (Nat × Nat × Value)
def kX(x:Nat × List (ByteArray × Value)):HP:=aP Value.string x.1 x.2
def e9(x:Nat × Value × Value):HP:=ae x.1 (cl [x.2.1,x.2.2] 113)
def ff(l:List (Nat × Nat × Value)):List Value:=l.flatMap fun x=>[ptr x.1,.int .i64 x.2.1,x.2.2]
def TG(bd:Nat)(D:Dk):List HP :=
  [ae bd (cl [.int .i64 D.room,.map (some D.bm),D.kM,D.oH,D.nK,.bool D.off] 76),aS kX D.maps,aZ 5 D.ec,aS e9 D.files,
   aB 72 1 D.kM D.gF.length (D.gF.map fun b => .map (some b)),aB 109 3 D.oH D.wl.length (ff D.wl)]
def hJ(bd:Nat)(D:Dk):HP:=Sep (TG bd D)
def iY(bd room bm:Nat)(kM oH nK:Value)(off:Bool)(maps:List (Nat × List (ByteArray × Value)))(ec:fU)(files:List (Nat × Value × Value))(gF:List Nat)(wl:List (Nat × Nat × Value))(H:List HP) :
  al (hJ bd ⟨room,bm,kM,oH,nK,off,maps,ec,files,gF,wl⟩::H)
   (ae bd (cl [.int .i64 room,.map (some bm),kM,oH,nK,.bool off] 76)::aS kX maps::aZ 5 ec::aS e9 files::aB 72 1 kM gF.length (gF.map fun b => .map (some b))::aB 109 3 oH wl.length (ff wl)::H):=al.cD _ _
def ek(bd room bm:Nat)(kM oH nK:Value)(off:Bool)(maps:List (Nat × List (ByteArray × Value)))(ec:fU)(files:List (Nat × Value × Value))(gF:List Nat)(wl:List (Nat × Nat × Value))(H:List HP) :
  al (ae bd (cl [.int .i64 room,.map (some bm),kM,oH,nK,.bool off] 76)::aS kX maps::aZ 5 ec::aS e9 files::aB 72 1 kM gF.length (gF.map fun b => .map (some b))::aB 109 3 oH wl.length (ff wl)::H)
   (hJ bd ⟨room,bm,kM,oH,nK,off,maps,ec,files,gF,wl⟩::H):=al.bS (TG bd ⟨room,bm,kM,oH,nK,off,maps,ec,files,gF,wl⟩) H
structure Rel(D:Dk)(A:Ab):Prop where
 room:D.room=A.room
 off:D.off=A.off
 names:(D.bm,eS A.names)∈D.maps
 aw:eZ (fun b es=>(b,eS es)∈D.maps) D.gF A.aw
 fs:eZ (fun x y=>x.1=y.1∧kK D.ec x.2.1 y.2.1∧kK D.ec x.2.2 y.2.2) D.files A.fs
 writes:eZ (fun x y=>x.1=y.1∧x.2.1=y.2.1∧kK D.ec x.2.2 y.2.2) D.wl A.writes
 er:kK D.ec D.nK A.er
 ids:(A.fs.map (·.1)).Nodup
 known:∀st∈A.names::A.aw,∀x∈st,x.2∈A.fs.map (·.1)
 gW:∀x∈A.writes,x.1∈A.fs.map (·.1)
 nodup:∀st∈A.names::A.aw,(st.map (·.1)).Nodup
 gG:∀x∈A.fs,x.2.1.length≤1048576∧x.2.2.length≤1048576
 im:∀x∈A.writes,x.2.1+x.2.2.length≤1048576
 fE:∀st∈A.names::A.aw,st.length≤200
 iq:A.room≤1073741824
 kr:A.er.length≤1000000000
 full:A.aw≠[]
def Rel.QW{D:Dk}(h:Rel D A){v:Value}{p:List UInt8}(o:Bool)(hp:kK D.ec v p)(hl:p.length≤1000000000):Rel { D with nK:=v,off:=o } { A with er:=p,off:=o } :=
 ⟨h.room,rfl,h.names,h.aw,h.fs,h.writes,hp,h.ids,h.known,h.gW,h.nodup,h.gG,h.im,h.fE,h.iq,hl,h.full⟩
def Rel.Nf{D:Dk}(h:Rel D A){v:Value}{p:List UInt8}(hp:kK D.ec v p)(hl:p.length≤1000000000):Rel { D with nK:=v } { A with er:=p } :=
 ⟨h.room,h.off,h.names,h.aw,h.fs,h.writes,hp,h.ids,h.known,h.gW,h.nodup,h.gG,h.im,h.fE,h.iq,hl,h.full⟩
def ys(bd:Nat)(D:Dk)(A:Ab)(hR:Rel D A)(may:Bool) :
  aE Tryz.prog 128 [ptr bd,.bool may] [hJ bd D] (fun v H=>∃D',Rel D' (A.meet may).2∧H=[hJ bd D']∧v = .int .i64 (A.meet may).1):=by
 obtain⟨room,bm,kM,oH,nK,off,maps,ec,files,gF,wl⟩:=D
 obtain⟨a,cap,nV,jz⟩:=hR.er.shape
 simp only at nV
 subst nV
 have jV:=hR.off
 simp only at jV
 refine aE.ao Tryz.func128 Tryz.ntmps128 fun G F R hE=>?_
 refine ai (iY _ _ _ _ _ _ _ _ _ _ _ _ _) ?_
 cases may with
 | false =>
  refine go ?_
  refine aL hE Tryz.func128 rfl _ rfl ⟨_,hR,rfl,rfl⟩ ((al.pick [0,1,2,3,4,5] rfl).trans (ek _ _ _ _ _ _ _ _ _ _ _ _ _))
 | true =>
  cases off with
  | true =>
   have hm:A.meet true=(7,A):=by simp[Ab.meet,← jV]
   rw[hm]at hE
   refine go ?_
   refine aL hE Tryz.func128 rfl _ rfl ⟨_,hR,rfl,rfl⟩ ((al.pick [0,1,2,3,4,5] rfl).trans (ek _ _ _ _ _ _ _ _ _ _ _ _ _))
  | false =>
   refine go ?_
   refine fR zr zr ?_ ?_
   ·intro h0
    have nZ:A.er=[]:=List.eq_nil_of_length_eq_zero (by have:=of_decide_eq_true h0;omega)
    have hm:A.meet true=(0,A):=by simp[Ab.meet,← jV,nZ]
    rw[hm]at hE
    refine go ?_
    refine aL hE Tryz.func128 rfl _ rfl ⟨_,hR,rfl,rfl⟩ ((al.pick [0,1,2,3,4,5] rfl).trans (ek _ _ _ _ _ _ _ _ _ _ _ _ _))
   ·intro h0
    obtain⟨x,p,Qr⟩:∃x p,A.er=x::p:=by
     cases h:A.er with
     | nil=>rw[h]at h0;simp at h0
     | cons x p=>exact⟨x,p,rfl⟩
    have hm:A.meet true=if x=1 then(6,{ A with er:=p })else if x=2 then(7,{ A with er:=p,off:=true })else(0,{ A with er:=p }):=by simp[Ab.meet,← jV,Qr]
    have Yb:kK ec (.slice a A.er.length cap) (x::p):=by have:=hR.er;rw[Qr]at this;rw[Qr];exact this
    have hlen:A.er.length=p.length+1:=by rw[Qr];rfl
    have Ae:=hR.kr
    obtain⟨b,o,gM,gk⟩:=(Yb.view 5).some (by simp[bV])
    simp only[Value.slice.injEq]at gk
    obtain⟨rfl,_,rfl⟩:=gk
    refine go ?_
    refine bM 0 zr zr zr zr zr zr zr zr ag ?_
    refine ux (U:=aQ) 2 zr zr zr (Vw.cell (cap:=cap) (n:=(x::p).length) (cs:=bV (x::p)) (by rw[← Qr];exact hR.er.view _) (c:=u8 x) (by simp[bV])) zr zr ?_
    refine go ?_
    refine lT zr zr zr zr zr zr zr ag ag (.inl rfl) ?_
    intro o' ON _
    have hn:(A.er.length:Int).toNat-(1:Int).toNat=p.length:=by omega
    rw[hn]
    have hp:kK ec (.slice (some ⟨b,o',none⟩) p.length (cap-(1:Int).toNat)) p:=Yb.tail o' _ (fun bY=>ON (by
     have:0<p.length:=List.length_pos_iff.2 bY
     omega)) ag
    have hoA:A.off=false:=jV.symm
    have hR1:=hR.Nf hp ag
    have Pb:=hR.QW true hp ag
    clear Yb hp ON
    refine go ?_
    refine aq zr zr ?_ ?_
    ·intro hx
     have MF:x=1:=MX hx
     rw[hm,if_pos MF]at hE
     refine go ?_
     refine aL hE Tryz.func128 rfl _ rfl ⟨_,hR1,rfl,rfl⟩ ((al.pick [0,1,2,3,4,5] rfl).trans (ek _ _ _ _ _ _ _ _ _ _ _ _ _))
    ·intro hx
     have MF:x≠1:=fun h=>hx (by rw[h];rfl)
     refine go ?_
     refine aq zr zr ?_ ?_
     ·intro hy
      have rE:x=2:=MX hy
      rw[hm,if_neg MF,if_pos rE]at hE
      refine go ?_
      refine aL hE Tryz.func128 rfl _ rfl ⟨_,Pb,rfl,rfl⟩ ((al.pick [0,1,2,3,4,5] rfl).trans (ek _ _ _ _ _ _ _ _ _ _ _ _ _))
     ·intro hy
      have rE:x≠2:=fun h=>hy (by rw[h];rfl)
      rw[hm,if_neg MF,if_neg rE]at hE
      refine go ?_
      refine aL hE Tryz.func128 rfl _ rfl ⟨_,hR1,rfl,rfl⟩ ((al.pick [0,1,2,3,4,5] rfl).trans (ek _ _ _ _ _ _ _ _ _ _ _ _ _))
def pq(l:List (ByteArray × Nat))(name:ByteArray):ew (eS l) name=(Ab.cP l name).map ptr:=by
 unfold ew Ab.cP eS
 induction l with
 | nil=>rfl
 | cons x l ih =>
  simp only[List.map_cons,List.find?_cons]
  by_cases h:x.1=name
  ·simp[h]
  ·simp only[h,decide_false];exact ih
def jU{maps:List (Nat × List (ByteArray × Value))}{b:Nat}{es:List (ByteArray × Value)}(hs:Sat G w H)(hi:cE H i=some (aS kX maps))(hm:(b,es)∈maps) :
  ∃o,qd Value.string o es∧w.heap[b]?=some o:=by
 obtain⟨h,hh,hA⟩:=hs.lf hi
 obtain⟨h',s,hb⟩:=AJ hm hA
 unfold kX aP at hb
 obtain⟨o,ho,hp⟩:=hb
 unfold ae at hp
 exact⟨o,ho,hh b o (s b o (by rw[hp b];simp))⟩
def wy:mG Tryz.prog 9 Value.string:=Oj Tryz.underlying9
def Xb:Option Nat→Value
 | none => .pointer none
 | some f=>ptr f
def jX(bd:Nat)(D:Dk)(A:Ab)(hR:Rel D A)(name:ByteArray)(may:Bool) :
  aE Tryz.prog 165 [ptr bd,.string name,.bool may] [hJ bd D] (fun v H=>∃D',Rel D' (A.find name may).2.2∧H=[hJ bd D']∧v = .tuple #[Xb (A.find name may).2.1,.int .i64 (A.find name may).1]):=by
 refine aE.ao Tryz.func165 Tryz.ntmps165 fun G F R hE=>?_
 refine go ?_
 refine cF [0] zr zr zr zr (ys bd D A hR may) rfl mM ?_
 rintro _ _⟨D',gx,rfl,rfl⟩
 refine go ?_
 refine fR zr zr ?_ ?_
 ·intro h0
  have nZ:¬(A.meet may).1=0:=by have:=of_decide_eq_true h0;omega
  have hf:A.find name may=((A.meet may).1,none,(A.meet may).2):=by simp[Ab.find,nZ]
  rw[hf]at hE
  refine go ?_
  refine aL hE Tryz.func165 rfl _ rfl ⟨D',gx,rfl,rfl⟩ (al.pick [0] rfl)
 ·intro h0
  have nZ:(A.meet may).1=0:=by have:=of_decide_eq_false h0;omega
  obtain⟨room,bm,kM,oH,nK,off,maps,ec,files,gF,wl⟩:=D'
  refine ai (iY _ _ _ _ _ _ _ _ _ _ _ _ _) (go ?_)
  refine qK (U:=aQ) rfl wy zr zr zr zr zr zr zr (fun w hw=>jU (i:=1) hw rfl gx.names) ?_
  rw[pq]
  cases hl:Ab.cP (A.meet may).2.names name with
  | none =>
   have hf:A.find name may=(4,none,(A.meet may).2):=by simp[Ab.find,nZ,Ab.look,hl]
   rw[hf]at hE
   refine go ?_
   refine aL hE Tryz.func165 rfl _ rfl ⟨_,gx,rfl,rfl⟩ ((al.pick [0,1,2,3,4,5] rfl).trans (ek _ _ _ _ _ _ _ _ _ _ _ _ _))
  | some fl =>
   have hf:A.find name may=(0,some fl,(A.meet may).2):=by simp[Ab.find,nZ,Ab.look,hl]
   rw[hf]at hE
   refine go ?_
   refine aL hE Tryz.func165 rfl _ rfl ⟨_,gx,rfl,rfl⟩ ((al.pick [0,1,2,3,4,5] rfl).trans (ek _ _ _ _ _ _ _ _ _ _ _ _ _))
def sQ{α:Type}{l:List (Nat × α)}(hn:(l.map (·.1)).Nodup){x:α}(hi:l[i]?=some (f,x)):(l.find? fun x=>decide (x.1=f))=some (f,x):=by
 induction l generalizing i with
 | nil=>simp at hi
 | cons y l ih =>
  simp only[List.map_cons,List.nodup_cons]at hn
  cases i with
  | zero=>simp at hi;subst hi;simp
  | succ i =>
   simp at hi
   have bY:y.1≠f:=fun e=>hn.1 (List.mem_map.2 ⟨_,List.mem_of_getElem? hi,e.symm⟩)
   simp only[List.find?_cons,bY,decide_false]
   exact ih hn.2 hi
def Rel.file{D:Dk}(h:Rel D A)(hf:f∈A.fs.map (·.1)):∃(i:Nat) (v1 v2:Value),D.files[i]?=some (f,v1,v2)∧A.fs[i]?=some (f,A.now f,A.sure f)∧kK D.ec v1 (A.now f)∧kK D.ec v2 (A.sure f):=by
 obtain⟨⟨f',n,s⟩,hm,rfl⟩:=List.mem_map.1 hf
 obtain⟨i,hi⟩:=List.getElem?_of_mem hm
 obtain⟨⟨f2,v1,v2⟩,hx,h1,h2,h3⟩:=h.fs.right hi
 simp only at h1 h2 h3
 subst h1
 have mi:A.file f2=(n,s):=by unfold Ab.file;rw[sQ h.ids hi];rfl
 refine⟨i,v1,v2,hx,?_,?_,?_⟩
 ·rw[hi];simp[Ab.now,Ab.sure,mi]
 ·simpa[Ab.now,mi]using h2
 ·simpa[Ab.sure,mi]using h3
def Rel.small{D:Dk}(h:Rel D A)(f:Nat):(A.now f).length≤1048576∧(A.sure f).length≤1048576:=by
 unfold Ab.now Ab.sure Ab.file
 cases hf:A.fs.find? fun x=>decide (x.1=f)with
 | none=>simp
 | some x=>simpa using h.gG x (List.mem_of_find?_eq_some hf)
def zb{files:List (Nat × Value × Value)}{v1 v2:Value}{j:Nat}(hs:Sat G w H)(hi:cE H i=some (aS e9 files))(hm:files[j]?=some (f,v1,v2)) :
  w.heap[f]?=some (cl [v1,v2] 113):=by
 obtain⟨h,hh,hA⟩:=hs.lf hi
 obtain⟨h',s,hb⟩:=AJ (List.mem_of_getElem? hm) hA
 unfold e9 ae at hb
 exact hh f _ (s f _ (by rw[hb f];simp))
def tY{files:List (Nat × Value × Value)}{v1 v2:Value}{j:Nat}(hs:Sat G w H)(hi:cE H i=some (aS e9 files))(hm:files[j]?=some (f,v1,v2)) :
  w.cell? ⟨f,0,none⟩=some v1:=by rw[dJ (zb hs hi hm)];rfl
def oV{l:List (ByteArray × Nat)}{k:ByteArray}(hn:(l.map (·.1)).Nodup)(h:(k,f)∈l):Ab.cP l k=some f:=by
  obtain⟨i,hi⟩:=List.getElem?_of_mem h
  have:ew (l.map fun x=>(x.1,Value.int .i64 x.2)) k=some (.int .i64 f):=By (i:=i) (by simp[hi]) (fun j hj he=>by
    rw[List.map_map]at he
    have h1:(l.map (·.1))[j]?=(l.map (·.1))[i]? := by
      have e:(List.map ((fun x=>x.1) ∘ fun x=>(x.1,Value.int IntKind.i64 (x.2:Nat))) l)=l.map (·.1):=rfl
      rw[e]at he
      rw[he];simp[hi]
    have:=(List.getElem?_inj (by
      rcases Nat.lt_or_ge j (l.map (·.1)).length with h|h
      · exact h
      · rw[List.getElem?_eq_none h]at h1;simp[hi]at h1) hn).1 h1
    omega)
  unfold ew at this
  unfold Ab.cP
  rw[List.find?_map]at this
  simp only[Option.map_map]at this
  cases hx:l.find? fun x=>decide (x.1=k)with
  | none => have e : (l.find? ((fun x => decide (x.1 = k)) ∘ fun x => (x.1, Value.int IntKind.i64 (x.2 : Nat)))) = none := hx
            rw[e]at this;cases this
  | some y => 
    have e:(l.find? ((fun x=>decide (x.1=k)) ∘ fun x=>(x.1,Value.int IntKind.i64 (x.2:Nat))))=some y:=hx
    rw[e]at this
    have h2:((y.2:Nat):Int)=f:=by simpa using this
    rw[Option.map_some,show y.2=f by omega]
def qf{l:List (ByteArray × Nat)}{k:ByteArray}(h:Ab.cP l k=some f):(k,f)∈l:=by
 unfold Ab.cP at h
 cases hx:l.find? fun x=>decide (x.1=k)with
 | none=>rw[hx]at h;cases h
 | some y =>
  rw[hx]at h
  have h1:=List.find?_some hx
  simp only[decide_eq_true_eq]at h1
  simp only[Option.map_some,Option.some.injEq]at h
  have:=List.mem_of_find?_eq_some hx
  rwa[← h1,← h]
def lenOf(A:Ab)(k:ByteArray):Nat:=(A.look k).elim 0 fun f=>(A.now f).length
def sumOf(A:Ab)(l:List ByteArray):Nat:=(l.map (lenOf A)).sum
def DC(h:∀f,(A.now f).length≤1048576)(l:List ByteArray):sumOf A l≤l.length*1048576:=by
 induction l with
 | nil=>simp[sumOf]
 | cons k l ih =>
  have h1:lenOf A k≤1048576:=by unfold lenOf;cases A.look k with|none=>simp|some f=>exact h f
  simp only[sumOf,List.map_cons,List.sum_cons,List.length_cons]at ih ⊢
  omega
def G5{α:Type}[DecidableEq α]{l r:List α}(h1:l.Nodup)(h2:r.Nodup)(h:∀x,x∈l↔x∈r):l.Perm r:=(List.perm_ext_iff_of_nodup h1 h2).2 h
def u7{α:Type}[DecidableEq α]{l r:List α}(h1:l.Nodup)(h:∀x∈l,x∈r):l.length≤r.length:=by
 induction l generalizing r with
 | nil=>simp
 | cons x l ih =>
  simp only[List.nodup_cons]at h1
  have:=ih (r:=r.erase x) h1.2 (fun y hy=>(List.mem_erase_of_ne (by rintro rfl;exact h1.1 hy)).2 (h y (by simp[hy])))
  rw[List.length_erase_of_mem (h x (by simp))]at this
  have h3:0<r.length:=List.length_pos_of_mem (h x (by simp))
  simp only[List.length_cons]
  omega
def xR(hn:(A.names.map (·.1)).Nodup):sumOf A (A.names.map (·.1))=A.used:=by
 unfold sumOf Ab.used
 rw[List.map_map]
 congr 1
 apply List.map_congr_left
 rintro⟨k,f⟩ hx
 have:A.look k=some f:=oV hn hx
 simp[lenOf,this]
def PH(bd:Nat)(D:Dk)(A:Ab)(hR:Rel D A) :
  aE Tryz.prog 166 [ptr bd] [hJ bd D] (fun v H=>H=[hJ bd D]∧v = .int .i64 A.used):=by
 obtain⟨room,bm,kM,oH,nK,off,maps,ec,files,gF,wl⟩:=D
 refine aE.ao Tryz.func166 Tryz.ntmps166 fun G F R hE=>?_
 refine ai (iY _ _ _ _ _ _ _ _ _ _ _ _ _) (go ?_)
 obtain⟨j,hj⟩:=List.getElem?_of_mem hR.names
 simp only at hj
 refine aI (al.pick [1] rfl) ?_
 refine aI (ig kX hj _) ?_
 refine xu (kv:=Value.string) (es:=eS A.names) (U:=aQ) 0 zr zr zr zr zr (fun _=>rfl) bD ?_
 intro it
 refine go ?_
 have kj:=hR.nodup _ (List.mem_cons_self ..)
 have Bd:(eS A.names).map (·.1)=A.names.map (·.1):=by simp[eS,Function.comp_def]
 refine bB (fun dn:List ByteArray=>dn.Nodup∧∀x∈dn,x∈A.names.map (·.1)) (fun dn=>A.names.length-dn.length)
  (fun dn=>[(3,.int .i64 (sumOf A dn)),(10,.pointer (some ⟨it,0,none⟩))])
  (fun dn=>bP Value.string bm it (eS A.names) dn::aS kX (maps.eraseIdx j)::ae bd (cl [.int .i64 room,.map (some bm),kM,oH,nK,.bool off] 76)::aZ 5 ec::aS e9 files::aB 72 1 kM gF.length (gF.map fun b => .map (some b))::aB 109 3 oH wl.length (ff wl)::F)
  [] ⟨List.nodup_nil,by simp⟩ rfl cg (al.refl _) ?_
 rintro dn⟨yQ,eF⟩ ih
 have hlen:=u7 yQ eF
 have hb:=DC (fun f=>(hR.small f).1) dn
 have hN:=hR.fE _ (List.mem_cons_self ..)
 rw[List.length_map]at hlen
 refine go ?_
 refine C5 (kv:=Value.string) (es:=eS A.names) 0 rfl wy.inj zr zr (fun _=>rfl) gB bD ?_ ?_
 ·intro fH
  refine go ?_
  have hp:sumOf A dn=A.used:=by
   rw[← xR kj]
   refine List.Perm.sum_nat ((G5 yQ kj fun x=>⟨eF x,fun hx=>?_⟩).map _)
   rw[← Bd]at hx
   obtain⟨y,hy,rfl⟩:=List.mem_map.1 hx
   exact fH y hy
  refine ai ((al.head (B:=[kX (bm,eS A.names)]) (fun h hs=>by obtain⟨h',s,hm⟩:=qW h hs;exact⟨h',s,gm hm⟩)).trans (pV kX hj _)) ?_
  rw[hp]
  refine aL hE Tryz.func166 rfl _ rfl ⟨rfl,rfl⟩ ((al.pick [1,0] rfl).trans ((al.pick [0,1,2,3,4,5] rfl).trans (ek _ _ _ _ _ _ _ _ _ _ _ _ _)))
 ·intro key v fz wF
  obtain⟨⟨k',f⟩,hx,Ox⟩:=List.mem_map.1 fz
  simp only[Prod.mk.injEq]at Ox
  obtain⟨rfl,rfl⟩:=Ox
  refine go ?_
  refine xA (kv:=Value.string) (es:=eS A.names) 0 rfl wy.inj zr zr fz (go ?_)
  obtain⟨i,v1,v2,hi,nr,mf,rW⟩:=hR.file (hR.known _ (List.mem_cons_self ..) _ hx)
  obtain⟨a,cap,rfl,jz⟩:=mf.shape
  refine xz (U:=aQ) zr zr (fun w hw=>tY (i:=4) hw rfl hi) zr zr ?_
  have oE:A.look k'=some f:=oV kj hx
  have hl:lenOf A k'=(A.now f).length:=by simp[lenOf,oE]
  have Ae:=(hR.small f).1
  have RI:k'∈A.names.map (·.1):=List.mem_map.2 ⟨_,hx,rfl⟩
  have O3:(k'::dn).Nodup:=List.nodup_cons.2 ⟨wF,yQ⟩
  have uH:∀x∈k'::dn,x∈A.names.map (·.1):=fun x hx=>by
   rcases List.mem_cons.1 hx with rfl|h
   ·exact RI
   ·exact eF x h
  have yK:=u7 O3 uH
  rw[List.length_map,List.length_cons]at yK
  refine go ?_
  refine aX 3 (.int .i64 (sumOf A (k'::dn))) rfl (congrArg (Value.int .i64) (by simp only[sumOf,List.map_cons,List.sum_cons,hl];omega)) ?_
  refine aM ih (k'::dn) rfl ⟨O3,uH⟩ (by show _-(_+1)<_;omega) cg (al.refl _)
end Go.Proofs.YtedjnjkijiddlaaGreatDoor
