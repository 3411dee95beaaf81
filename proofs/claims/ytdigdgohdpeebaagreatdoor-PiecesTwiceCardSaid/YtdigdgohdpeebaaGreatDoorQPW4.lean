import Derived.Test.YtdigdgohdpeebaaGreatDoorQPW2
import Derived.Test.YtdigdgohdpeebaaGreatDoorQPW3
import Derived.Test.YtdigdgohdpeebaaGreatDoorProg
set_option linter.defProp false
set_option linter.unusedSimpArgs false
set_option linter.unusedVariables false
set_option linter.defProp false
namespace Go.Proofs.YtdigdgohdpeebaaGreatDoor
open Go.SL
def TP(i:TypeId)(a b:TypeInfo):Prop:=Tryz.prog.underlying i=some a.desc∧Tryz.prog.info? i=some b
def acr:TP 1 Tryz.t1 Tryz.t1:=⟨ak,ak⟩
def acq:TP 2 Tryz.t2 Tryz.t2:=⟨ak,ak⟩
def acp:TP 3 Tryz.t3 Tryz.t3:=⟨ak,ak⟩
def aco:TP 4 Tryz.t4 Tryz.t4:=⟨ak,ak⟩
def acn:TP 5 Tryz.t5 Tryz.t5:=⟨ak,ak⟩
def acm:TP 6 Tryz.t5 Tryz.t6:=⟨ak,ak⟩
def ack:TP 7 Tryz.t7 Tryz.t7:=⟨ak,ak⟩
def acj:TP 8 Tryz.t7 Tryz.t8:=⟨ak,ak⟩
def aci:TP 9 Tryz.t9 Tryz.t9:=⟨ak,ak⟩
def aaz:TP 10 Tryz.t9 Tryz.t10:=⟨ak,ak⟩
def aay:TP 11 Tryz.t9 Tryz.t11:=⟨ak,ak⟩
def aax:TP 12 Tryz.t12 Tryz.t12:=⟨ak,ak⟩
def aaw:TP 13 Tryz.t13 Tryz.t13:=⟨ak,ak⟩
def aav:TP 14 Tryz.t13 Tryz.t14:=⟨ak,ak⟩
def aau:TP 15 Tryz.t15 Tryz.t15:=⟨ak,ak⟩
def aat:TP 16 Tryz.t16 Tryz.t16:=⟨ak,ak⟩
def aas:TP 17 Tryz.t17 Tryz.t17:=⟨ak,ak⟩
def aar:TP 18 Tryz.t18 Tryz.t18:=⟨ak,ak⟩
def aaq:TP 19 Tryz.t18 Tryz.t19:=⟨ak,ak⟩
def aap:TP 20 Tryz.t20 Tryz.t20:=⟨ak,ak⟩
def aao:TP 21 Tryz.t21 Tryz.t21:=⟨ak,ak⟩
def aan:TP 22 Tryz.t22 Tryz.t22:=⟨ak,ak⟩
def aam:TP 23 Tryz.t23 Tryz.t23:=⟨ak,ak⟩
def aal:TP 24 Tryz.t24 Tryz.t24:=⟨ak,ak⟩
def aak:TP 25 Tryz.t25 Tryz.t25:=⟨ak,ak⟩
def aaj:TP 26 Tryz.t3 Tryz.t26:=⟨ak,ak⟩
def aai:TP 28 Tryz.t28 Tryz.t28:=⟨ak,ak⟩
def aah:TP 29 Tryz.t29 Tryz.t29:=⟨ak,ak⟩
def aag:TP 30 Tryz.t30 Tryz.t30:=⟨ak,ak⟩
def aaf:TP 31 Tryz.t31 Tryz.t31:=⟨ak,ak⟩
def aae:TP 32 Tryz.t32 Tryz.t32:=⟨ak,ak⟩
def aad:TP 33 Tryz.t32 Tryz.t33:=⟨ak,ak⟩
def aac:TP 34 Tryz.t34 Tryz.t34:=⟨ak,ak⟩
def aab:TP 35 Tryz.t35 Tryz.t35:=⟨ak,ak⟩
def aaa:TP 36 Tryz.t35 Tryz.t36:=⟨ak,ak⟩
def Z':TP 37 Tryz.t37 Tryz.t37:=⟨ak,ak⟩
def Z9:TP 38 Tryz.t37 Tryz.t38:=⟨ak,ak⟩
def Z8:TP 39 Tryz.t39 Tryz.t39:=⟨ak,ak⟩
def Z7:TP 40 Tryz.t40 Tryz.t40:=⟨ak,ak⟩
def Z6:TP 42 Tryz.t42 Tryz.t42:=⟨ak,ak⟩
def Z5:TP 43 Tryz.t43 Tryz.t43:=⟨ak,ak⟩
def Z4:TP 44 Tryz.t43 Tryz.t44:=⟨ak,ak⟩
def Z3:TP 45 Tryz.t45 Tryz.t45:=⟨ak,ak⟩
def Z1:TP 46 Tryz.t46 Tryz.t46:=⟨ak,ak⟩
def ZZ:TP 47 Tryz.t47 Tryz.t47:=⟨ak,ak⟩
def ZY:TP 48 Tryz.t48 Tryz.t48:=⟨ak,ak⟩
def ZX:TP 49 Tryz.t49 Tryz.t49:=⟨ak,ak⟩
def ZW:TP 50 Tryz.t50 Tryz.t50:=⟨ak,ak⟩
def ZV:TP 52 Tryz.t52 Tryz.t52:=⟨ak,ak⟩
def ZU:TP 54 Tryz.t54 Tryz.t54:=⟨ak,ak⟩
def ZT:TP 55 Tryz.t55 Tryz.t55:=⟨ak,ak⟩
def ZS:TP 56 Tryz.t55 Tryz.t56:=⟨ak,ak⟩
def ZR:TP 57 Tryz.t57 Tryz.t57:=⟨ak,ak⟩
def ZQ:TP 58 Tryz.t58 Tryz.t58:=⟨ak,ak⟩
def ZP:TP 59 Tryz.t59 Tryz.t59:=⟨ak,ak⟩
def ZO:TP 60 Tryz.t59 Tryz.t60:=⟨ak,ak⟩
def ZN:TP 62 Tryz.t62 Tryz.t62:=⟨ak,ak⟩
def ZM:TP 64 Tryz.t64 Tryz.t64:=⟨ak,ak⟩
def ZL:TP 66 Tryz.t66 Tryz.t66:=⟨ak,ak⟩
def ZK:TP 68 Tryz.t68 Tryz.t68:=⟨ak,ak⟩
def ZJ:TP 69 Tryz.t69 Tryz.t69:=⟨ak,ak⟩
def ZI:TP 70 Tryz.t70 Tryz.t70:=⟨ak,ak⟩
def ZH:TP 71 Tryz.t71 Tryz.t71:=⟨ak,ak⟩
def ZG:TP 72 Tryz.t72 Tryz.t72:=⟨ak,ak⟩
def ZF:TP 73 Tryz.t72 Tryz.t73:=⟨ak,ak⟩
def ZE:TP 74 Tryz.t74 Tryz.t74:=⟨ak,ak⟩
def ZD:TP 75 Tryz.t75 Tryz.t75:=⟨ak,ak⟩
def ZC:TP 76 Tryz.t76 Tryz.t76:=⟨ak,ak⟩
def ZB:TP 77 Tryz.t77 Tryz.t77:=⟨ak,ak⟩
def ZA:TP 78 Tryz.t78 Tryz.t78:=⟨ak,ak⟩
def Zz:TP 79 Tryz.t78 Tryz.t79:=⟨ak,ak⟩
def Zy:TP 80 Tryz.t80 Tryz.t80:=⟨ak,ak⟩
def Zx:TP 81 Tryz.t81 Tryz.t81:=⟨ak,ak⟩
def Zw:TP 82 Tryz.t82 Tryz.t82:=⟨ak,ak⟩
def Zv:TP 83 Tryz.t83 Tryz.t83:=⟨ak,ak⟩
def Zu:TP 84 Tryz.t84 Tryz.t84:=⟨ak,ak⟩
def Zt:TP 85 Tryz.t85 Tryz.t85:=⟨ak,ak⟩
def Zs:TP 86 Tryz.t86 Tryz.t86:=⟨ak,ak⟩
def Zr:TP 87 Tryz.t87 Tryz.t87:=⟨ak,ak⟩
def Zq:TP 88 Tryz.t88 Tryz.t88:=⟨ak,ak⟩
def Zp:TP 89 Tryz.t89 Tryz.t89:=⟨ak,ak⟩
def Zo:TP 90 Tryz.t90 Tryz.t90:=⟨ak,ak⟩
def Zn:TP 91 Tryz.t91 Tryz.t91:=⟨ak,ak⟩
def Zm:TP 92 Tryz.t92 Tryz.t92:=⟨ak,ak⟩
def Zl:TP 93 Tryz.t93 Tryz.t93:=⟨ak,ak⟩
def Zk:TP 94 Tryz.t94 Tryz.t94:=⟨ak,ak⟩
def Zj:TP 95 Tryz.t94 Tryz.t95:=⟨ak,ak⟩
def Zi:TP 96 Tryz.t96 Tryz.t96:=⟨ak,ak⟩
def Zh:TP 97 Tryz.t97 Tryz.t97:=⟨ak,ak⟩
def Zg:TP 98 Tryz.t98 Tryz.t98:=⟨ak,ak⟩
def Zf:TP 99 Tryz.t98 Tryz.t99:=⟨ak,ak⟩
def WG:TP 100 Tryz.t100 Tryz.t100:=⟨ak,ak⟩
def WE:TP 101 Tryz.t101 Tryz.t101:=⟨ak,ak⟩
def WD:TP 103 Tryz.t103 Tryz.t103:=⟨ak,ak⟩
def WC:TP 104 Tryz.t104 Tryz.t104:=⟨ak,ak⟩
def WB:TP 105 Tryz.t105 Tryz.t105:=⟨ak,ak⟩
def WA:TP 106 Tryz.t106 Tryz.t106:=⟨ak,ak⟩
def Wz:TP 107 Tryz.t106 Tryz.t107:=⟨ak,ak⟩
def Wy:TP 108 Tryz.t108 Tryz.t108:=⟨ak,ak⟩
def Wx:TP 109 Tryz.t109 Tryz.t109:=⟨ak,ak⟩
def Ww:TP 110 Tryz.t110 Tryz.t110:=⟨ak,ak⟩
def Wv:TP 111 Tryz.t111 Tryz.t111:=⟨ak,ak⟩
def Wu:TP 112 Tryz.t112 Tryz.t112:=⟨ak,ak⟩
def Wt:TP 113 Tryz.t112 Tryz.t113:=⟨ak,ak⟩
def Ws:TP 114 Tryz.t114 Tryz.t114:=⟨ak,ak⟩
def Wr:TP 115 Tryz.t115 Tryz.t115:=⟨ak,ak⟩
def Wq:TP 116 Tryz.t116 Tryz.t116:=⟨ak,ak⟩
def Wp:TP 117 Tryz.t117 Tryz.t117:=⟨ak,ak⟩
def Wo:TP 119 Tryz.t119 Tryz.t119:=⟨ak,ak⟩
def Wn:TP 120 Tryz.t120 Tryz.t120:=⟨ak,ak⟩
def Wm:TP 121 Tryz.t121 Tryz.t121:=⟨ak,ak⟩
def Wl:TP 122 Tryz.t122 Tryz.t122:=⟨ak,ak⟩
def Wk:TP 123 Tryz.t123 Tryz.t123:=⟨ak,ak⟩
def Wj:TP 124 Tryz.t124 Tryz.t124:=⟨ak,ak⟩
def Wi:TP 125 Tryz.t125 Tryz.t125:=⟨ak,ak⟩
def Wh:TP 127 Tryz.t127 Tryz.t127:=⟨ak,ak⟩
def Wg:TP 128 Tryz.t128 Tryz.t128:=⟨ak,ak⟩
def Wf:TP 129 Tryz.t129 Tryz.t129:=⟨ak,ak⟩
def We:TP 130 Tryz.t130 Tryz.t130:=⟨ak,ak⟩
def Wd:TP 131 Tryz.t131 Tryz.t131:=⟨ak,ak⟩
def Wc:TP 132 Tryz.t132 Tryz.t132:=⟨ak,ak⟩
def Wb:TP 133 Tryz.t133 Tryz.t133:=⟨ak,ak⟩
def Wa:TP 134 Tryz.t134 Tryz.t134:=⟨ak,ak⟩
def V':TP 135 Tryz.t135 Tryz.t135:=⟨ak,ak⟩
def V9:TP 136 Tryz.t136 Tryz.t136:=⟨ak,ak⟩
def V8:TP 137 Tryz.t137 Tryz.t137:=⟨ak,ak⟩
def V7:TP 138 Tryz.t137 Tryz.t138:=⟨ak,ak⟩
def V6:TP 139 Tryz.t139 Tryz.t139:=⟨ak,ak⟩
def V5:TP 140 Tryz.t140 Tryz.t140:=⟨ak,ak⟩
def V4:TP 141 Tryz.t141 Tryz.t141:=⟨ak,ak⟩
def V3:TP 142 Tryz.t142 Tryz.t142:=⟨ak,ak⟩
def V2:TP 143 Tryz.t143 Tryz.t143:=⟨ak,ak⟩
def V1:TP 145 Tryz.t145 Tryz.t145:=⟨ak,ak⟩
def V0:TP 146 Tryz.t146 Tryz.t146:=⟨ak,ak⟩
def VZ:TP 147 Tryz.t147 Tryz.t147:=⟨ak,ak⟩
def VY:TP 148 Tryz.t148 Tryz.t148:=⟨ak,ak⟩
def VX:TP 149 Tryz.t149 Tryz.t149:=⟨ak,ak⟩
def VW:TP 150 Tryz.t150 Tryz.t150:=⟨ak,ak⟩
def VV:TP 151 Tryz.t151 Tryz.t151:=⟨ak,ak⟩
def VU:TP 152 Tryz.t152 Tryz.t152:=⟨ak,ak⟩
def VT:TP 153 Tryz.t153 Tryz.t153:=⟨ak,ak⟩
def VS:TP 154 Tryz.t154 Tryz.t154:=⟨ak,ak⟩
def VR:TP 155 Tryz.t155 Tryz.t155:=⟨ak,ak⟩
def VQ:TP 156 Tryz.t155 Tryz.t156:=⟨ak,ak⟩
def VP:TP 157 Tryz.t157 Tryz.t157:=⟨ak,ak⟩
def VO:TP 159 Tryz.t159 Tryz.t159:=⟨ak,ak⟩
def VN:TP 160 Tryz.t160 Tryz.t160:=⟨ak,ak⟩
def VM:TP 161 Tryz.t160 Tryz.t161:=⟨ak,ak⟩
def VL:TP 163 Tryz.t163 Tryz.t163:=⟨ak,ak⟩
def VK:TP 165 Tryz.t165 Tryz.t165:=⟨ak,ak⟩
def VJ:TP 166 Tryz.t166 Tryz.t166:=⟨ak,ak⟩
def VI:TP 167 Tryz.t167 Tryz.t167:=⟨ak,ak⟩
def VH:TP 168 Tryz.t168 Tryz.t168:=⟨ak,ak⟩
def VG:TP 170 Tryz.t170 Tryz.t170:=⟨ak,ak⟩
def VF:TP 171 Tryz.t171 Tryz.t171:=⟨ak,ak⟩
def VE:TP 172 Tryz.t171 Tryz.t172:=⟨ak,ak⟩
def VD:TP 173 Tryz.t173 Tryz.t173:=⟨ak,ak⟩
def VC:TP 174 Tryz.t174 Tryz.t174:=⟨ak,ak⟩
def VB:TP 175 Tryz.t174 Tryz.t175:=⟨ak,ak⟩
def VA:TP 177 Tryz.t177 Tryz.t177:=⟨ak,ak⟩
def Vz:TP 179 Tryz.t179 Tryz.t179:=⟨ak,ak⟩
def Vy:TP 180 Tryz.t180 Tryz.t180:=⟨ak,ak⟩
def Vx:TP 181 Tryz.t181 Tryz.t181:=⟨ak,ak⟩
def Vv:TP 182 Tryz.t182 Tryz.t182:=⟨ak,ak⟩
def Vu:TP 183 Tryz.t183 Tryz.t183:=⟨ak,ak⟩
def Vt:TP 184 Tryz.t184 Tryz.t184:=⟨ak,ak⟩
def Vs:TP 185 Tryz.t185 Tryz.t185:=⟨ak,ak⟩
def Vr:TP 186 Tryz.t186 Tryz.t186:=⟨ak,ak⟩
def Vq:TP 187 Tryz.t187 Tryz.t187:=⟨ak,ak⟩
def Vp:TP 188 Tryz.t188 Tryz.t188:=⟨ak,ak⟩
def Vo:TP 190 Tryz.t190 Tryz.t190:=⟨ak,ak⟩
def Vn:TP 191 Tryz.t191 Tryz.t191:=⟨ak,ak⟩
def Vl:TP 192 Tryz.t192 Tryz.t192:=⟨ak,ak⟩
def Vk:TP 193 Tryz.t193 Tryz.t193:=⟨ak,ak⟩
def Vj:TP 194 Tryz.t193 Tryz.t194:=⟨ak,ak⟩
def Vi:TP 195 Tryz.t195 Tryz.t195:=⟨ak,ak⟩
def Vh:TP 196 Tryz.t196 Tryz.t196:=⟨ak,ak⟩
def Vg:TP 197 Tryz.t197 Tryz.t197:=⟨ak,ak⟩
def Vf:TP 198 Tryz.t198 Tryz.t198:=⟨ak,ak⟩
def Ve:TP 199 Tryz.t198 Tryz.t199:=⟨ak,ak⟩
def Vd:TP 200 Tryz.t200 Tryz.t200:=⟨ak,ak⟩
def Vc:TP 201 Tryz.t201 Tryz.t201:=⟨ak,ak⟩
def Vb:TP 203 Tryz.t203 Tryz.t203:=⟨ak,ak⟩
def Va:TP 204 Tryz.t204 Tryz.t204:=⟨ak,ak⟩
def U':TP 205 Tryz.t205 Tryz.t205:=⟨ak,ak⟩
def U9:TP 206 Tryz.t206 Tryz.t206:=⟨ak,ak⟩
def U8:TP 207 Tryz.t207 Tryz.t207:=⟨ak,ak⟩
def U7:TP 208 Tryz.t208 Tryz.t208:=⟨ak,ak⟩
def U6:TP 209 Tryz.t209 Tryz.t209:=⟨ak,ak⟩
def U5:TP 210 Tryz.t210 Tryz.t210:=⟨ak,ak⟩
def U4:TP 211 Tryz.t211 Tryz.t211:=⟨ak,ak⟩
def U3:TP 212 Tryz.t212 Tryz.t212:=⟨ak,ak⟩
def U2:TP 213 Tryz.t213 Tryz.t213:=⟨ak,ak⟩
def U1:TP 214 Tryz.t214 Tryz.t214:=⟨ak,ak⟩
def U0:TP 215 Tryz.t215 Tryz.t215:=⟨ak,ak⟩
def UZ:TP 216 Tryz.t216 Tryz.t216:=⟨ak,ak⟩
def UY:TP 217 Tryz.t217 Tryz.t217:=⟨ak,ak⟩
def UX:TP 218 Tryz.t218 Tryz.t218:=⟨ak,ak⟩
def UW:TP 219 Tryz.t151 Tryz.t219:=⟨ak,ak⟩
def UU:TP 220 Tryz.t220 Tryz.t220:=⟨ak,ak⟩
def UT:TP 222 Tryz.t222 Tryz.t222:=⟨ak,ak⟩
def US:TP 223 Tryz.t223 Tryz.t223:=⟨ak,ak⟩
def UR:TP 224 Tryz.t224 Tryz.t224:=⟨ak,ak⟩
def UQ:TP 225 Tryz.t225 Tryz.t225:=⟨ak,ak⟩
def UP:TP 227 Tryz.t227 Tryz.t227:=⟨ak,ak⟩
def UO:TP 228 Tryz.t228 Tryz.t228:=⟨ak,ak⟩
def UN:TP 229 Tryz.t229 Tryz.t229:=⟨ak,ak⟩
def UM:TP 230 Tryz.t230 Tryz.t230:=⟨ak,ak⟩
def UL:TP 232 Tryz.t232 Tryz.t232:=⟨ak,ak⟩
def UK:TP 234 Tryz.t234 Tryz.t234:=⟨ak,ak⟩
def UJ:TP 235 Tryz.t235 Tryz.t235:=⟨ak,ak⟩
def UI:TP 236 Tryz.t236 Tryz.t236:=⟨ak,ak⟩
def UH:TP 237 Tryz.t237 Tryz.t237:=⟨ak,ak⟩
def UG:TP 238 Tryz.t238 Tryz.t238:=⟨ak,ak⟩
def UF:TP 239 Tryz.t239 Tryz.t239:=⟨ak,ak⟩
def UE:TP 240 Tryz.t240 Tryz.t240:=⟨ak,ak⟩
def UD:TP 241 Tryz.t241 Tryz.t241:=⟨ak,ak⟩
def UC:TP 242 Tryz.t242 Tryz.t242:=⟨ak,ak⟩
def UB:TP 243 Tryz.t243 Tryz.t243:=⟨ak,ak⟩
def UA:TP 244 Tryz.t244 Tryz.t244:=⟨ak,ak⟩
def Uz:TP 246 Tryz.t246 Tryz.t246:=⟨ak,ak⟩
def Uy:TP 247 Tryz.t247 Tryz.t247:=⟨ak,ak⟩
def Ux:TP 248 Tryz.t248 Tryz.t248:=⟨ak,ak⟩
def Uw:TP 249 Tryz.t249 Tryz.t249:=⟨ak,ak⟩
def Uv:TP 250 Tryz.t250 Tryz.t250:=⟨ak,ak⟩
def Uu:TP 251 Tryz.t250 Tryz.t251:=⟨ak,ak⟩
def Ut:TP 252 Tryz.t252 Tryz.t252:=⟨ak,ak⟩
def Us:TP 254 Tryz.t254 Tryz.t254:=⟨ak,ak⟩
def Ur:TP 255 Tryz.t255 Tryz.t255:=⟨ak,ak⟩
def Uq:TP 256 Tryz.t256 Tryz.t256:=⟨ak,ak⟩
def Up:TP 258 Tryz.t258 Tryz.t258:=⟨ak,ak⟩
def Uo:TP 259 Tryz.t259 Tryz.t259:=⟨ak,ak⟩
def Un:TP 260 Tryz.t260 Tryz.t260:=⟨ak,ak⟩
def Um:TP 261 Tryz.t260 Tryz.t261:=⟨ak,ak⟩
def Ul:TP 262 Tryz.t262 Tryz.t262:=⟨ak,ak⟩
def Uk:TP 263 Tryz.t263 Tryz.t263:=⟨ak,ak⟩
def Uj:TP 264 Tryz.t263 Tryz.t264:=⟨ak,ak⟩
def Ui:TP 265 Tryz.t265 Tryz.t265:=⟨ak,ak⟩
def Uh:TP 266 Tryz.t266 Tryz.t266:=⟨ak,ak⟩
def Ug:TP 267 Tryz.t3 Tryz.t267:=⟨ak,ak⟩
def Uf:TP 269 Tryz.t269 Tryz.t269:=⟨ak,ak⟩
def Ue:TP 270 Tryz.t270 Tryz.t270:=⟨ak,ak⟩
def Ud:TP 271 Tryz.t271 Tryz.t271:=⟨ak,ak⟩
def Uc:TP 272 Tryz.t272 Tryz.t272:=⟨ak,ak⟩
def Ub:TP 273 Tryz.t273 Tryz.t273:=⟨ak,ak⟩
def Ua:TP 274 Tryz.t274 Tryz.t274:=⟨ak,ak⟩
def T':TP 275 Tryz.t275 Tryz.t275:=⟨ak,ak⟩
def T9:TP 276 Tryz.t276 Tryz.t276:=⟨ak,ak⟩
def T8:TP 278 Tryz.t278 Tryz.t278:=⟨ak,ak⟩
def T7:TP 280 Tryz.t280 Tryz.t280:=⟨ak,ak⟩
def T6:TP 281 Tryz.t281 Tryz.t281:=⟨ak,ak⟩
def T5:TP 282 Tryz.t282 Tryz.t282:=⟨ak,ak⟩
def T4:TP 283 Tryz.t283 Tryz.t283:=⟨ak,ak⟩
def T3:TP 284 Tryz.t134 Tryz.t284:=⟨ak,ak⟩
def T2:TP 285 Tryz.t285 Tryz.t285:=⟨ak,ak⟩
def T1:TP 286 Tryz.t286 Tryz.t286:=⟨ak,ak⟩
def TZ:TP 287 Tryz.t287 Tryz.t287:=⟨ak,ak⟩
def TY:TP 288 Tryz.t288 Tryz.t288:=⟨ak,ak⟩
def TX:TP 289 Tryz.t289 Tryz.t289:=⟨ak,ak⟩
def TW:TP 290 Tryz.t290 Tryz.t290:=⟨ak,ak⟩
def TV:TP 292 Tryz.t292 Tryz.t292:=⟨ak,ak⟩
def TU:TP 293 Tryz.t293 Tryz.t293:=⟨ak,ak⟩
def TT:TP 294 Tryz.t294 Tryz.t294:=⟨ak,ak⟩
def TS:TP 295 Tryz.t294 Tryz.t295:=⟨ak,ak⟩
def TR:TP 296 Tryz.t296 Tryz.t296:=⟨ak,ak⟩
def TQ:TP 297 Tryz.t297 Tryz.t297:=⟨ak,ak⟩
def TO:TP 298 Tryz.t297 Tryz.t298:=⟨ak,ak⟩
def TN:TP 299 Tryz.t5 Tryz.t299:=⟨ak,ak⟩
def TM:TP 300 Tryz.t5 Tryz.t300:=⟨ak,ak⟩
def TL:TP 301 Tryz.t301 Tryz.t301:=⟨ak,ak⟩
def TK:TP 302 Tryz.t302 Tryz.t302:=⟨ak,ak⟩
def TJ:TP 303 Tryz.t21 Tryz.t303:=⟨ak,ak⟩
def TI:TP 304 Tryz.t21 Tryz.t304:=⟨ak,ak⟩
def TH:TP 305 Tryz.t305 Tryz.t305:=⟨ak,ak⟩
def TG:TP 306 Tryz.t305 Tryz.t306:=⟨ak,ak⟩
def TF:TP 307 Tryz.t307 Tryz.t307:=⟨ak,ak⟩
noncomputable def aS:Tr:=(.node 151 ⟨Tryz.t151.desc,Tryz.t151⟩ (.node 78 ⟨Tryz.t78.desc,Tryz.t78⟩ (.node 36 ⟨Tryz.t35.desc,Tryz.t36⟩ (.node 18 ⟨Tryz.t18.desc,Tryz.t18⟩ (.node 9 ⟨Tryz.t9.desc,Tryz.t9⟩ (.node 5 ⟨Tryz.t5.desc,Tryz.t5⟩ (.node 3 ⟨Tryz.t3.desc,Tryz.t3⟩ (.node 2 ⟨Tryz.t2.desc,Tryz.t2⟩ (.node 1 ⟨Tryz.t1.desc,Tryz.t1⟩ .leaf .leaf) .leaf) (.node 4 ⟨Tryz.t4.desc,Tryz.t4⟩ .leaf .leaf)) (.node 7 ⟨Tryz.t7.desc,Tryz.t7⟩ (.node 6 ⟨Tryz.t5.desc,Tryz.t6⟩ .leaf .leaf) (.node 8 ⟨Tryz.t7.desc,Tryz.t8⟩ .leaf .leaf))) (.node 14 ⟨Tryz.t13.desc,Tryz.t14⟩ (.node 12 ⟨Tryz.t12.desc,Tryz.t12⟩ (.node 11 ⟨Tryz.t9.desc,Tryz.t11⟩ (.node 10 ⟨Tryz.t9.desc,Tryz.t10⟩ .leaf .leaf) .leaf) (.node 13 ⟨Tryz.t13.desc,Tryz.t13⟩ .leaf .leaf)) (.node 16 ⟨Tryz.t16.desc,Tryz.t16⟩ (.node 15 ⟨Tryz.t15.desc,Tryz.t15⟩ .leaf .leaf) (.node 17 ⟨Tryz.t17.desc,Tryz.t17⟩ .leaf .leaf)))) (.node 28 ⟨Tryz.t28.desc,Tryz.t28⟩ (.node 23 ⟨Tryz.t23.desc,Tryz.t23⟩ (.node 21 ⟨Tryz.t21.desc,Tryz.t21⟩ (.node 20 ⟨Tryz.t20.desc,Tryz.t20⟩ (.node 19 ⟨Tryz.t18.desc,Tryz.t19⟩ .leaf .leaf) .leaf) (.node 22 ⟨Tryz.t22.desc,Tryz.t22⟩ .leaf .leaf)) (.node 25 ⟨Tryz.t25.desc,Tryz.t25⟩ (.node 24 ⟨Tryz.t24.desc,Tryz.t24⟩ .leaf .leaf) (.node 26 ⟨Tryz.t3.desc,Tryz.t26⟩ .leaf .leaf))) (.node 32 ⟨Tryz.t32.desc,Tryz.t32⟩ (.node 30 ⟨Tryz.t30.desc,Tryz.t30⟩ (.node 29 ⟨Tryz.t29.desc,Tryz.t29⟩ .leaf .leaf) (.node 31 ⟨Tryz.t31.desc,Tryz.t31⟩ .leaf .leaf)) (.node 34 ⟨Tryz.t34.desc,Tryz.t34⟩ (.node 33 ⟨Tryz.t32.desc,Tryz.t33⟩ .leaf .leaf) (.node 35 ⟨Tryz.t35.desc,Tryz.t35⟩ .leaf .leaf))))) (.node 57 ⟨Tryz.t57.desc,Tryz.t57⟩ (.node 46 ⟨Tryz.t46.desc,Tryz.t46⟩ (.node 42 ⟨Tryz.t42.desc,Tryz.t42⟩ (.node 39 ⟨Tryz.t39.desc,Tryz.t39⟩ (.node 38 ⟨Tryz.t37.desc,Tryz.t38⟩ (.node 37 ⟨Tryz.t37.desc,Tryz.t37⟩ .leaf .leaf) .leaf) (.node 40 ⟨Tryz.t40.desc,Tryz.t40⟩ .leaf .leaf)) (.node 44 ⟨Tryz.t43.desc,Tryz.t44⟩ (.node 43 ⟨Tryz.t43.desc,Tryz.t43⟩ .leaf .leaf) (.node 45 ⟨Tryz.t45.desc,Tryz.t45⟩ .leaf .leaf))) (.node 52 ⟨Tryz.t52.desc,Tryz.t52⟩ (.node 49 ⟨Tryz.t49.desc,Tryz.t49⟩ (.node 48 ⟨Tryz.t48.desc,Tryz.t48⟩ (.node 47 ⟨Tryz.t47.desc,Tryz.t47⟩ .leaf .leaf) .leaf) (.node 50 ⟨Tryz.t50.desc,Tryz.t50⟩ .leaf .leaf)) (.node 55 ⟨Tryz.t55.desc,Tryz.t55⟩ (.node 54 ⟨Tryz.t54.desc,Tryz.t54⟩ .leaf .leaf) (.node 56 ⟨Tryz.t55.desc,Tryz.t56⟩ .leaf .leaf)))) (.node 70 ⟨Tryz.t70.desc,Tryz.t70⟩ (.node 64 ⟨Tryz.t64.desc,Tryz.t64⟩ (.node 60 ⟨Tryz.t59.desc,Tryz.t60⟩ (.node 59 ⟨Tryz.t59.desc,Tryz.t59⟩ (.node 58 ⟨Tryz.t58.desc,Tryz.t58⟩ .leaf .leaf) .leaf) (.node 62 ⟨Tryz.t62.desc,Tryz.t62⟩ .leaf .leaf)) (.node 68 ⟨Tryz.t68.desc,Tryz.t68⟩ (.node 66 ⟨Tryz.t66.desc,Tryz.t66⟩ .leaf .leaf) (.node 69 ⟨Tryz.t69.desc,Tryz.t69⟩ .leaf .leaf))) (.node 74 ⟨Tryz.t74.desc,Tryz.t74⟩ (.node 72 ⟨Tryz.t72.desc,Tryz.t72⟩ (.node 71 ⟨Tryz.t71.desc,Tryz.t71⟩ .leaf .leaf) (.node 73 ⟨Tryz.t72.desc,Tryz.t73⟩ .leaf .leaf)) (.node 76 ⟨Tryz.t76.desc,Tryz.t76⟩ (.node 75 ⟨Tryz.t75.desc,Tryz.t75⟩ .leaf .leaf) (.node 77 ⟨Tryz.t77.desc,Tryz.t77⟩ .leaf .leaf)))))) (.node 114 ⟨Tryz.t114.desc,Tryz.t114⟩ (.node 96 ⟨Tryz.t96.desc,Tryz.t96⟩ (.node 87 ⟨Tryz.t87.desc,Tryz.t87⟩ (.node 83 ⟨Tryz.t83.desc,Tryz.t83⟩ (.node 81 ⟨Tryz.t81.desc,Tryz.t81⟩ (.node 80 ⟨Tryz.t80.desc,Tryz.t80⟩ (.node 79 ⟨Tryz.t78.desc,Tryz.t79⟩ .leaf .leaf) .leaf) (.node 82 ⟨Tryz.t82.desc,Tryz.t82⟩ .leaf .leaf)) (.node 85 ⟨Tryz.t85.desc,Tryz.t85⟩ (.node 84 ⟨Tryz.t84.desc,Tryz.t84⟩ .leaf .leaf) (.node 86 ⟨Tryz.t86.desc,Tryz.t86⟩ .leaf .leaf))) (.node 92 ⟨Tryz.t92.desc,Tryz.t92⟩ (.node 90 ⟨Tryz.t90.desc,Tryz.t90⟩ (.node 89 ⟨Tryz.t89.desc,Tryz.t89⟩ (.node 88 ⟨Tryz.t88.desc,Tryz.t88⟩ .leaf .leaf) .leaf) (.node 91 ⟨Tryz.t91.desc,Tryz.t91⟩ .leaf .leaf)) (.node 94 ⟨Tryz.t94.desc,Tryz.t94⟩ (.node 93 ⟨Tryz.t93.desc,Tryz.t93⟩ .leaf .leaf) (.node 95 ⟨Tryz.t94.desc,Tryz.t95⟩ .leaf .leaf)))) (.node 106 ⟨Tryz.t106.desc,Tryz.t106⟩ (.node 101 ⟨Tryz.t101.desc,Tryz.t101⟩ (.node 99 ⟨Tryz.t98.desc,Tryz.t99⟩ (.node 98 ⟨Tryz.t98.desc,Tryz.t98⟩ (.node 97 ⟨Tryz.t97.desc,Tryz.t97⟩ .leaf .leaf) .leaf) (.node 100 ⟨Tryz.t100.desc,Tryz.t100⟩ .leaf .leaf)) (.node 104 ⟨Tryz.t104.desc,Tryz.t104⟩ (.node 103 ⟨Tryz.t103.desc,Tryz.t103⟩ .leaf .leaf) (.node 105 ⟨Tryz.t105.desc,Tryz.t105⟩ .leaf .leaf))) (.node 110 ⟨Tryz.t110.desc,Tryz.t110⟩ (.node 108 ⟨Tryz.t108.desc,Tryz.t108⟩ (.node 107 ⟨Tryz.t106.desc,Tryz.t107⟩ .leaf .leaf) (.node 109 ⟨Tryz.t109.desc,Tryz.t109⟩ .leaf .leaf)) (.node 112 ⟨Tryz.t112.desc,Tryz.t112⟩ (.node 111 ⟨Tryz.t111.desc,Tryz.t111⟩ .leaf .leaf) (.node 113 ⟨Tryz.t112.desc,Tryz.t113⟩ .leaf .leaf))))) (.node 133 ⟨Tryz.t133.desc,Tryz.t133⟩ (.node 124 ⟨Tryz.t124.desc,Tryz.t124⟩ (.node 120 ⟨Tryz.t120.desc,Tryz.t120⟩ (.node 117 ⟨Tryz.t117.desc,Tryz.t117⟩ (.node 116 ⟨Tryz.t116.desc,Tryz.t116⟩ (.node 115 ⟨Tryz.t115.desc,Tryz.t115⟩ .leaf .leaf) .leaf) (.node 119 ⟨Tryz.t119.desc,Tryz.t119⟩ .leaf .leaf)) (.node 122 ⟨Tryz.t122.desc,Tryz.t122⟩ (.node 121 ⟨Tryz.t121.desc,Tryz.t121⟩ .leaf .leaf) (.node 123 ⟨Tryz.t123.desc,Tryz.t123⟩ .leaf .leaf))) (.node 129 ⟨Tryz.t129.desc,Tryz.t129⟩ (.node 127 ⟨Tryz.t127.desc,Tryz.t127⟩ (.node 125 ⟨Tryz.t125.desc,Tryz.t125⟩ .leaf .leaf) (.node 128 ⟨Tryz.t128.desc,Tryz.t128⟩ .leaf .leaf)) (.node 131 ⟨Tryz.t131.desc,Tryz.t131⟩ (.node 130 ⟨Tryz.t130.desc,Tryz.t130⟩ .leaf .leaf) (.node 132 ⟨Tryz.t132.desc,Tryz.t132⟩ .leaf .leaf)))) (.node 142 ⟨Tryz.t142.desc,Tryz.t142⟩ (.node 138 ⟨Tryz.t137.desc,Tryz.t138⟩ (.node 136 ⟨Tryz.t136.desc,Tryz.t136⟩ (.node 135 ⟨Tryz.t135.desc,Tryz.t135⟩ (.node 134 ⟨Tryz.t134.desc,Tryz.t134⟩ .leaf .leaf) .leaf) (.node 137 ⟨Tryz.t137.desc,Tryz.t137⟩ .leaf .leaf)) (.node 140 ⟨Tryz.t140.desc,Tryz.t140⟩ (.node 139 ⟨Tryz.t139.desc,Tryz.t139⟩ .leaf .leaf) (.node 141 ⟨Tryz.t141.desc,Tryz.t141⟩ .leaf .leaf))) (.node 147 ⟨Tryz.t147.desc,Tryz.t147⟩ (.node 145 ⟨Tryz.t145.desc,Tryz.t145⟩ (.node 143 ⟨Tryz.t143.desc,Tryz.t143⟩ .leaf .leaf) (.node 146 ⟨Tryz.t146.desc,Tryz.t146⟩ .leaf .leaf)) (.node 149 ⟨Tryz.t149.desc,Tryz.t149⟩ (.node 148 ⟨Tryz.t148.desc,Tryz.t148⟩ .leaf .leaf) (.node 150 ⟨Tryz.t150.desc,Tryz.t150⟩ .leaf .leaf))))))) (.node 230 ⟨Tryz.t230.desc,Tryz.t230⟩ (.node 193 ⟨Tryz.t193.desc,Tryz.t193⟩ (.node 173 ⟨Tryz.t173.desc,Tryz.t173⟩ (.node 161 ⟨Tryz.t160.desc,Tryz.t161⟩ (.node 156 ⟨Tryz.t155.desc,Tryz.t156⟩ (.node 154 ⟨Tryz.t154.desc,Tryz.t154⟩ (.node 153 ⟨Tryz.t153.desc,Tryz.t153⟩ (.node 152 ⟨Tryz.t152.desc,Tryz.t152⟩ .leaf .leaf) .leaf) (.node 155 ⟨Tryz.t155.desc,Tryz.t155⟩ .leaf .leaf)) (.node 159 ⟨Tryz.t159.desc,Tryz.t159⟩ (.node 157 ⟨Tryz.t157.desc,Tryz.t157⟩ .leaf .leaf) (.node 160 ⟨Tryz.t160.desc,Tryz.t160⟩ .leaf .leaf))) (.node 168 ⟨Tryz.t168.desc,Tryz.t168⟩ (.node 166 ⟨Tryz.t166.desc,Tryz.t166⟩ (.node 165 ⟨Tryz.t165.desc,Tryz.t165⟩ (.node 163 ⟨Tryz.t163.desc,Tryz.t163⟩ .leaf .leaf) .leaf) (.node 167 ⟨Tryz.t167.desc,Tryz.t167⟩ .leaf .leaf)) (.node 171 ⟨Tryz.t171.desc,Tryz.t171⟩ (.node 170 ⟨Tryz.t170.desc,Tryz.t170⟩ .leaf .leaf) (.node 172 ⟨Tryz.t171.desc,Tryz.t172⟩ .leaf .leaf)))) (.node 184 ⟨Tryz.t184.desc,Tryz.t184⟩ (.node 180 ⟨Tryz.t180.desc,Tryz.t180⟩ (.node 177 ⟨Tryz.t177.desc,Tryz.t177⟩ (.node 175 ⟨Tryz.t174.desc,Tryz.t175⟩ (.node 174 ⟨Tryz.t174.desc,Tryz.t174⟩ .leaf .leaf) .leaf) (.node 179 ⟨Tryz.t179.desc,Tryz.t179⟩ .leaf .leaf)) (.node 182 ⟨Tryz.t182.desc,Tryz.t182⟩ (.node 181 ⟨Tryz.t181.desc,Tryz.t181⟩ .leaf .leaf) (.node 183 ⟨Tryz.t183.desc,Tryz.t183⟩ .leaf .leaf))) (.node 188 ⟨Tryz.t188.desc,Tryz.t188⟩ (.node 186 ⟨Tryz.t186.desc,Tryz.t186⟩ (.node 185 ⟨Tryz.t185.desc,Tryz.t185⟩ .leaf .leaf) (.node 187 ⟨Tryz.t187.desc,Tryz.t187⟩ .leaf .leaf)) (.node 191 ⟨Tryz.t191.desc,Tryz.t191⟩ (.node 190 ⟨Tryz.t190.desc,Tryz.t190⟩ .leaf .leaf) (.node 192 ⟨Tryz.t192.desc,Tryz.t192⟩ .leaf .leaf))))) (.node 211 ⟨Tryz.t211.desc,Tryz.t211⟩ (.node 203 ⟨Tryz.t203.desc,Tryz.t203⟩ (.node 198 ⟨Tryz.t198.desc,Tryz.t198⟩ (.node 196 ⟨Tryz.t196.desc,Tryz.t196⟩ (.node 195 ⟨Tryz.t195.desc,Tryz.t195⟩ (.node 194 ⟨Tryz.t193.desc,Tryz.t194⟩ .leaf .leaf) .leaf) (.node 197 ⟨Tryz.t197.desc,Tryz.t197⟩ .leaf .leaf)) (.node 200 ⟨Tryz.t200.desc,Tryz.t200⟩ (.node 199 ⟨Tryz.t198.desc,Tryz.t199⟩ .leaf .leaf) (.node 201 ⟨Tryz.t201.desc,Tryz.t201⟩ .leaf .leaf))) (.node 207 ⟨Tryz.t207.desc,Tryz.t207⟩ (.node 205 ⟨Tryz.t205.desc,Tryz.t205⟩ (.node 204 ⟨Tryz.t204.desc,Tryz.t204⟩ .leaf .leaf) (.node 206 ⟨Tryz.t206.desc,Tryz.t206⟩ .leaf .leaf)) (.node 209 ⟨Tryz.t209.desc,Tryz.t209⟩ (.node 208 ⟨Tryz.t208.desc,Tryz.t208⟩ .leaf .leaf) (.node 210 ⟨Tryz.t210.desc,Tryz.t210⟩ .leaf .leaf)))) (.node 220 ⟨Tryz.t220.desc,Tryz.t220⟩ (.node 216 ⟨Tryz.t216.desc,Tryz.t216⟩ (.node 214 ⟨Tryz.t214.desc,Tryz.t214⟩ (.node 213 ⟨Tryz.t213.desc,Tryz.t213⟩ (.node 212 ⟨Tryz.t212.desc,Tryz.t212⟩ .leaf .leaf) .leaf) (.node 215 ⟨Tryz.t215.desc,Tryz.t215⟩ .leaf .leaf)) (.node 218 ⟨Tryz.t218.desc,Tryz.t218⟩ (.node 217 ⟨Tryz.t217.desc,Tryz.t217⟩ .leaf .leaf) (.node 219 ⟨Tryz.t151.desc,Tryz.t219⟩ .leaf .leaf))) (.node 225 ⟨Tryz.t225.desc,Tryz.t225⟩ (.node 223 ⟨Tryz.t223.desc,Tryz.t223⟩ (.node 222 ⟨Tryz.t222.desc,Tryz.t222⟩ .leaf .leaf) (.node 224 ⟨Tryz.t224.desc,Tryz.t224⟩ .leaf .leaf)) (.node 228 ⟨Tryz.t228.desc,Tryz.t228⟩ (.node 227 ⟨Tryz.t227.desc,Tryz.t227⟩ .leaf .leaf) (.node 229 ⟨Tryz.t229.desc,Tryz.t229⟩ .leaf .leaf)))))) (.node 271 ⟨Tryz.t271.desc,Tryz.t271⟩ (.node 251 ⟨Tryz.t250.desc,Tryz.t251⟩ (.node 241 ⟨Tryz.t241.desc,Tryz.t241⟩ (.node 237 ⟨Tryz.t237.desc,Tryz.t237⟩ (.node 235 ⟨Tryz.t235.desc,Tryz.t235⟩ (.node 234 ⟨Tryz.t234.desc,Tryz.t234⟩ (.node 232 ⟨Tryz.t232.desc,Tryz.t232⟩ .leaf .leaf) .leaf) (.node 236 ⟨Tryz.t236.desc,Tryz.t236⟩ .leaf .leaf)) (.node 239 ⟨Tryz.t239.desc,Tryz.t239⟩ (.node 238 ⟨Tryz.t238.desc,Tryz.t238⟩ .leaf .leaf) (.node 240 ⟨Tryz.t240.desc,Tryz.t240⟩ .leaf .leaf))) (.node 247 ⟨Tryz.t247.desc,Tryz.t247⟩ (.node 244 ⟨Tryz.t244.desc,Tryz.t244⟩ (.node 243 ⟨Tryz.t243.desc,Tryz.t243⟩ (.node 242 ⟨Tryz.t242.desc,Tryz.t242⟩ .leaf .leaf) .leaf) (.node 246 ⟨Tryz.t246.desc,Tryz.t246⟩ .leaf .leaf)) (.node 249 ⟨Tryz.t249.desc,Tryz.t249⟩ (.node 248 ⟨Tryz.t248.desc,Tryz.t248⟩ .leaf .leaf) (.node 250 ⟨Tryz.t250.desc,Tryz.t250⟩ .leaf .leaf)))) (.node 262 ⟨Tryz.t262.desc,Tryz.t262⟩ (.node 258 ⟨Tryz.t258.desc,Tryz.t258⟩ (.node 255 ⟨Tryz.t255.desc,Tryz.t255⟩ (.node 254 ⟨Tryz.t254.desc,Tryz.t254⟩ (.node 252 ⟨Tryz.t252.desc,Tryz.t252⟩ .leaf .leaf) .leaf) (.node 256 ⟨Tryz.t256.desc,Tryz.t256⟩ .leaf .leaf)) (.node 260 ⟨Tryz.t260.desc,Tryz.t260⟩ (.node 259 ⟨Tryz.t259.desc,Tryz.t259⟩ .leaf .leaf) (.node 261 ⟨Tryz.t260.desc,Tryz.t261⟩ .leaf .leaf))) (.node 266 ⟨Tryz.t266.desc,Tryz.t266⟩ (.node 264 ⟨Tryz.t263.desc,Tryz.t264⟩ (.node 263 ⟨Tryz.t263.desc,Tryz.t263⟩ .leaf .leaf) (.node 265 ⟨Tryz.t265.desc,Tryz.t265⟩ .leaf .leaf)) (.node 269 ⟨Tryz.t269.desc,Tryz.t269⟩ (.node 267 ⟨Tryz.t3.desc,Tryz.t267⟩ .leaf .leaf) (.node 270 ⟨Tryz.t270.desc,Tryz.t270⟩ .leaf .leaf))))) (.node 290 ⟨Tryz.t290.desc,Tryz.t290⟩ (.node 282 ⟨Tryz.t282.desc,Tryz.t282⟩ (.node 276 ⟨Tryz.t276.desc,Tryz.t276⟩ (.node 274 ⟨Tryz.t274.desc,Tryz.t274⟩ (.node 273 ⟨Tryz.t273.desc,Tryz.t273⟩ (.node 272 ⟨Tryz.t272.desc,Tryz.t272⟩ .leaf .leaf) .leaf) (.node 275 ⟨Tryz.t275.desc,Tryz.t275⟩ .leaf .leaf)) (.node 280 ⟨Tryz.t280.desc,Tryz.t280⟩ (.node 278 ⟨Tryz.t278.desc,Tryz.t278⟩ .leaf .leaf) (.node 281 ⟨Tryz.t281.desc,Tryz.t281⟩ .leaf .leaf))) (.node 286 ⟨Tryz.t286.desc,Tryz.t286⟩ (.node 284 ⟨Tryz.t134.desc,Tryz.t284⟩ (.node 283 ⟨Tryz.t283.desc,Tryz.t283⟩ .leaf .leaf) (.node 285 ⟨Tryz.t285.desc,Tryz.t285⟩ .leaf .leaf)) (.node 288 ⟨Tryz.t288.desc,Tryz.t288⟩ (.node 287 ⟨Tryz.t287.desc,Tryz.t287⟩ .leaf .leaf) (.node 289 ⟨Tryz.t289.desc,Tryz.t289⟩ .leaf .leaf)))) (.node 300 ⟨Tryz.t5.desc,Tryz.t300⟩ (.node 296 ⟨Tryz.t296.desc,Tryz.t296⟩ (.node 294 ⟨Tryz.t294.desc,Tryz.t294⟩ (.node 293 ⟨Tryz.t293.desc,Tryz.t293⟩ (.node 292 ⟨Tryz.t292.desc,Tryz.t292⟩ .leaf .leaf) .leaf) (.node 295 ⟨Tryz.t294.desc,Tryz.t295⟩ .leaf .leaf)) (.node 298 ⟨Tryz.t297.desc,Tryz.t298⟩ (.node 297 ⟨Tryz.t297.desc,Tryz.t297⟩ .leaf .leaf) (.node 299 ⟨Tryz.t5.desc,Tryz.t299⟩ .leaf .leaf))) (.node 304 ⟨Tryz.t21.desc,Tryz.t304⟩ (.node 302 ⟨Tryz.t302.desc,Tryz.t302⟩ (.node 301 ⟨Tryz.t301.desc,Tryz.t301⟩ .leaf .leaf) (.node 303 ⟨Tryz.t21.desc,Tryz.t303⟩ .leaf .leaf)) (.node 306 ⟨Tryz.t305.desc,Tryz.t306⟩ (.node 305 ⟨Tryz.t305.desc,Tryz.t305⟩ .leaf .leaf) (.node 307 ⟨Tryz.t307.desc,Tryz.t307⟩ .leaf .leaf))))))))
instance jS:fV Tryz.prog aS:=⟨⟨VV,⟨ZA,⟨aaa,⟨aar,⟨aci,⟨acn,⟨acp,⟨acq,⟨acr,trivial,trivial⟩,trivial⟩,⟨aco,trivial,trivial⟩⟩,⟨ack,⟨acm,trivial,trivial⟩,⟨acj,trivial,trivial⟩⟩⟩,⟨aav,⟨aax,⟨aay,⟨aaz,trivial,trivial⟩,trivial⟩,⟨aaw,trivial,trivial⟩⟩,⟨aat,⟨aau,trivial,trivial⟩,⟨aas,trivial,trivial⟩⟩⟩⟩,⟨aai,⟨aam,⟨aao,⟨aap,⟨aaq,trivial,trivial⟩,trivial⟩,⟨aan,trivial,trivial⟩⟩,⟨aak,⟨aal,trivial,trivial⟩,⟨aaj,trivial,trivial⟩⟩⟩,⟨aae,⟨aag,⟨aah,trivial,trivial⟩,⟨aaf,trivial,trivial⟩⟩,⟨aac,⟨aad,trivial,trivial⟩,⟨aab,trivial,trivial⟩⟩⟩⟩⟩,⟨ZR,⟨Z1,⟨Z6,⟨Z8,⟨Z9,⟨Z',trivial,trivial⟩,trivial⟩,⟨Z7,trivial,trivial⟩⟩,⟨Z4,⟨Z5,trivial,trivial⟩,⟨Z3,trivial,trivial⟩⟩⟩,⟨ZV,⟨ZX,⟨ZY,⟨ZZ,trivial,trivial⟩,trivial⟩,⟨ZW,trivial,trivial⟩⟩,⟨ZT,⟨ZU,trivial,trivial⟩,⟨ZS,trivial,trivial⟩⟩⟩⟩,⟨ZI,⟨ZM,⟨ZO,⟨ZP,⟨ZQ,trivial,trivial⟩,trivial⟩,⟨ZN,trivial,trivial⟩⟩,⟨ZK,⟨ZL,trivial,trivial⟩,⟨ZJ,trivial,trivial⟩⟩⟩,⟨ZE,⟨ZG,⟨ZH,trivial,trivial⟩,⟨ZF,trivial,trivial⟩⟩,⟨ZC,⟨ZD,trivial,trivial⟩,⟨ZB,trivial,trivial⟩⟩⟩⟩⟩⟩,⟨Ws,⟨Zi,⟨Zr,⟨Zv,⟨Zx,⟨Zy,⟨Zz,trivial,trivial⟩,trivial⟩,⟨Zw,trivial,trivial⟩⟩,⟨Zt,⟨Zu,trivial,trivial⟩,⟨Zs,trivial,trivial⟩⟩⟩,⟨Zm,⟨Zo,⟨Zp,⟨Zq,trivial,trivial⟩,trivial⟩,⟨Zn,trivial,trivial⟩⟩,⟨Zk,⟨Zl,trivial,trivial⟩,⟨Zj,trivial,trivial⟩⟩⟩⟩,⟨WA,⟨WE,⟨Zf,⟨Zg,⟨Zh,trivial,trivial⟩,trivial⟩,⟨WG,trivial,trivial⟩⟩,⟨WC,⟨WD,trivial,trivial⟩,⟨WB,trivial,trivial⟩⟩⟩,⟨Ww,⟨Wy,⟨Wz,trivial,trivial⟩,⟨Wx,trivial,trivial⟩⟩,⟨Wu,⟨Wv,trivial,trivial⟩,⟨Wt,trivial,trivial⟩⟩⟩⟩⟩,⟨Wb,⟨Wj,⟨Wn,⟨Wp,⟨Wq,⟨Wr,trivial,trivial⟩,trivial⟩,⟨Wo,trivial,trivial⟩⟩,⟨Wl,⟨Wm,trivial,trivial⟩,⟨Wk,trivial,trivial⟩⟩⟩,⟨Wf,⟨Wh,⟨Wi,trivial,trivial⟩,⟨Wg,trivial,trivial⟩⟩,⟨Wd,⟨We,trivial,trivial⟩,⟨Wc,trivial,trivial⟩⟩⟩⟩,⟨V3,⟨V7,⟨V9,⟨V',⟨Wa,trivial,trivial⟩,trivial⟩,⟨V8,trivial,trivial⟩⟩,⟨V5,⟨V6,trivial,trivial⟩,⟨V4,trivial,trivial⟩⟩⟩,⟨VZ,⟨V1,⟨V2,trivial,trivial⟩,⟨V0,trivial,trivial⟩⟩,⟨VX,⟨VY,trivial,trivial⟩,⟨VW,trivial,trivial⟩⟩⟩⟩⟩⟩⟩,⟨UM,⟨Vk,⟨VD,⟨VM,⟨VQ,⟨VS,⟨VT,⟨VU,trivial,trivial⟩,trivial⟩,⟨VR,trivial,trivial⟩⟩,⟨VO,⟨VP,trivial,trivial⟩,⟨VN,trivial,trivial⟩⟩⟩,⟨VH,⟨VJ,⟨VK,⟨VL,trivial,trivial⟩,trivial⟩,⟨VI,trivial,trivial⟩⟩,⟨VF,⟨VG,trivial,trivial⟩,⟨VE,trivial,trivial⟩⟩⟩⟩,⟨Vt,⟨Vy,⟨VA,⟨VB,⟨VC,trivial,trivial⟩,trivial⟩,⟨Vz,trivial,trivial⟩⟩,⟨Vv,⟨Vx,trivial,trivial⟩,⟨Vu,trivial,trivial⟩⟩⟩,⟨Vp,⟨Vr,⟨Vs,trivial,trivial⟩,⟨Vq,trivial,trivial⟩⟩,⟨Vn,⟨Vo,trivial,trivial⟩,⟨Vl,trivial,trivial⟩⟩⟩⟩⟩,⟨U4,⟨Vb,⟨Vf,⟨Vh,⟨Vi,⟨Vj,trivial,trivial⟩,trivial⟩,⟨Vg,trivial,trivial⟩⟩,⟨Vd,⟨Ve,trivial,trivial⟩,⟨Vc,trivial,trivial⟩⟩⟩,⟨U8,⟨U',⟨Va,trivial,trivial⟩,⟨U9,trivial,trivial⟩⟩,⟨U6,⟨U7,trivial,trivial⟩,⟨U5,trivial,trivial⟩⟩⟩⟩,⟨UU,⟨UZ,⟨U1,⟨U2,⟨U3,trivial,trivial⟩,trivial⟩,⟨U0,trivial,trivial⟩⟩,⟨UX,⟨UY,trivial,trivial⟩,⟨UW,trivial,trivial⟩⟩⟩,⟨UQ,⟨US,⟨UT,trivial,trivial⟩,⟨UR,trivial,trivial⟩⟩,⟨UO,⟨UP,trivial,trivial⟩,⟨UN,trivial,trivial⟩⟩⟩⟩⟩⟩,⟨Ud,⟨Uu,⟨UD,⟨UH,⟨UJ,⟨UK,⟨UL,trivial,trivial⟩,trivial⟩,⟨UI,trivial,trivial⟩⟩,⟨UF,⟨UG,trivial,trivial⟩,⟨UE,trivial,trivial⟩⟩⟩,⟨Uy,⟨UA,⟨UB,⟨UC,trivial,trivial⟩,trivial⟩,⟨Uz,trivial,trivial⟩⟩,⟨Uw,⟨Ux,trivial,trivial⟩,⟨Uv,trivial,trivial⟩⟩⟩⟩,⟨Ul,⟨Up,⟨Ur,⟨Us,⟨Ut,trivial,trivial⟩,trivial⟩,⟨Uq,trivial,trivial⟩⟩,⟨Un,⟨Uo,trivial,trivial⟩,⟨Um,trivial,trivial⟩⟩⟩,⟨Uh,⟨Uj,⟨Uk,trivial,trivial⟩,⟨Ui,trivial,trivial⟩⟩,⟨Uf,⟨Ug,trivial,trivial⟩,⟨Ue,trivial,trivial⟩⟩⟩⟩⟩,⟨TW,⟨T5,⟨T9,⟨Ua,⟨Ub,⟨Uc,trivial,trivial⟩,trivial⟩,⟨T',trivial,trivial⟩⟩,⟨T7,⟨T8,trivial,trivial⟩,⟨T6,trivial,trivial⟩⟩⟩,⟨T1,⟨T3,⟨T4,trivial,trivial⟩,⟨T2,trivial,trivial⟩⟩,⟨TY,⟨TZ,trivial,trivial⟩,⟨TX,trivial,trivial⟩⟩⟩⟩,⟨TM,⟨TR,⟨TT,⟨TU,⟨TV,trivial,trivial⟩,trivial⟩,⟨TS,trivial,trivial⟩⟩,⟨TO,⟨TQ,trivial,trivial⟩,⟨TN,trivial,trivial⟩⟩⟩,⟨TI,⟨TK,⟨TL,trivial,trivial⟩,⟨TJ,trivial,trivial⟩⟩,⟨TG,⟨TH,trivial,trivial⟩,⟨TF,trivial,trivial⟩⟩⟩⟩⟩⟩⟩⟩⟩
def mixed:Tryz.prog.follows .mixedOrders=true:=by kernel_rfl
def go{A B:Prop}(a:A)(h:Yx A→B:=by(intro h;(repeat'(first|refine FV (U:=aS) rfl ?_|(refine JY ?_;first|refine ux zr zr zr zr ?_|refine uy zr zr zr zr zr zr zr ?_|refine uw zr zr zr zr zr zr ?_|refine rl zr zr zr zr zr zr ?_)|(refine aK ?_;first|refine eZ (U:=aS) 0 zr zr zr zr zr zr ?_|refine eZ (U:=aS) 1 zr zr zr zr zr zr ?_|refine eZ (U:=aS) 2 zr zr zr zr zr zr ?_|refine eZ (U:=aS) 3 zr zr zr zr zr zr ?_|refine eZ (U:=aS) 4 zr zr zr zr zr zr ?_|refine eZ (U:=aS) 5 zr zr zr zr zr zr ?_|refine ix (U:=aS) 0 zr zr zr zr zr zr ?_|refine ix (U:=aS) 1 zr zr zr zr zr zr ?_|refine ix (U:=aS) 2 zr zr zr zr zr zr ?_)|(refine uu ?_;first|refine xd zr zr zr ?_|refine xe zr zr zr ?_)|(refine lQ ?_;first|refine J3 zr zr zr (by simp only[gn];omega) ?_|refine CY zr zr zr (by simp only[gn];omega) ?_)|(refine eP ?_;refine zE (U:=aS) zr zr zr zr zr zr (by simp only[gn];omega) ?_)|(refine aV ?_;first|refine eV (U:=aS) 0 gB zr zr zr zr zr zr zr zr zr ?_|refine eV (U:=aS) 1 gB zr zr zr zr zr zr zr zr zr ?_|refine eV (U:=aS) 2 gB zr zr zr zr zr zr zr zr zr ?_|refine eV (U:=aS) 3 gB zr zr zr zr zr zr zr zr zr ?_)|refine FU ?_|refine aG rfl ?_|refine CV zr zr ?_|refine wY zr zr ?_));exact h.out)):B:=h ⟨a⟩
def gO{A B:Prop}(a:A)(h:Yx A→B:=by(intro h;(first|refine FV (U:=aS) rfl ?_|(refine JY ?_;first|refine ux zr zr zr zr ?_|refine uy zr zr zr zr zr zr zr ?_|refine uw zr zr zr zr zr zr ?_|refine rl zr zr zr zr zr zr ?_)|(refine aK ?_;first|refine eZ (U:=aS) 0 zr zr zr zr zr zr ?_|refine eZ (U:=aS) 1 zr zr zr zr zr zr ?_|refine eZ (U:=aS) 2 zr zr zr zr zr zr ?_|refine eZ (U:=aS) 3 zr zr zr zr zr zr ?_|refine eZ (U:=aS) 4 zr zr zr zr zr zr ?_|refine eZ (U:=aS) 5 zr zr zr zr zr zr ?_|refine ix (U:=aS) 0 zr zr zr zr zr zr ?_|refine ix (U:=aS) 1 zr zr zr zr zr zr ?_|refine ix (U:=aS) 2 zr zr zr zr zr zr ?_)|(refine uu ?_;first|refine xd zr zr zr ?_|refine xe zr zr zr ?_)|(refine lQ ?_;first|refine J3 zr zr zr (by simp only[gn];omega) ?_|refine CY zr zr zr (by simp only[gn];omega) ?_)|(refine eP ?_;refine zE (U:=aS) zr zr zr zr zr zr (by simp only[gn];omega) ?_)|(refine aV ?_;first|refine eV (U:=aS) 0 gB zr zr zr zr zr zr zr zr zr ?_|refine eV (U:=aS) 1 gB zr zr zr zr zr zr zr zr zr ?_|refine eV (U:=aS) 2 gB zr zr zr zr zr zr zr zr zr ?_|refine eV (U:=aS) 3 gB zr zr zr zr zr zr zr zr zr ?_)|refine FU ?_|refine aG rfl ?_|refine CV zr zr ?_|refine wY zr zr ?_);(repeat'(first|refine FV (U:=aS) rfl ?_|(refine JY ?_;first|refine ux zr zr zr zr ?_|refine uy zr zr zr zr zr zr zr ?_|refine uw zr zr zr zr zr zr ?_|refine rl zr zr zr zr zr zr ?_)|(refine aK ?_;first|refine eZ (U:=aS) 0 zr zr zr zr zr zr ?_|refine eZ (U:=aS) 1 zr zr zr zr zr zr ?_|refine eZ (U:=aS) 2 zr zr zr zr zr zr ?_|refine eZ (U:=aS) 3 zr zr zr zr zr zr ?_|refine eZ (U:=aS) 4 zr zr zr zr zr zr ?_|refine eZ (U:=aS) 5 zr zr zr zr zr zr ?_|refine ix (U:=aS) 0 zr zr zr zr zr zr ?_|refine ix (U:=aS) 1 zr zr zr zr zr zr ?_|refine ix (U:=aS) 2 zr zr zr zr zr zr ?_)|(refine uu ?_;first|refine xd zr zr zr ?_|refine xe zr zr zr ?_)|(refine lQ ?_;first|refine J3 zr zr zr (by simp only[gn];omega) ?_|refine CY zr zr zr (by simp only[gn];omega) ?_)|(refine eP ?_;refine zE (U:=aS) zr zr zr zr zr zr (by simp only[gn];omega) ?_)|(refine aV ?_;first|refine eV (U:=aS) 0 gB zr zr zr zr zr zr zr zr zr ?_|refine eV (U:=aS) 1 gB zr zr zr zr zr zr zr zr zr ?_|refine eV (U:=aS) 2 gB zr zr zr zr zr zr zr zr zr ?_|refine eV (U:=aS) 3 gB zr zr zr zr zr zr zr zr zr ?_)|refine FU ?_|refine aG rfl ?_|refine CV zr zr ?_|refine wY zr zr ?_));exact h.out)):B:=h ⟨a⟩
def pz{A B:Prop}(a:A)(h:Yx A→B:=by(intro h;(repeat'(first|refine FV (U:=aS) rfl ?_|(refine JY ?_;first|refine ux zr zr zr zr ?_|refine uy zr zr zr zr zr zr zr ?_|refine uw zr zr zr zr zr zr ?_|refine rl zr zr zr zr zr zr ?_)|(refine aK ?_;first|refine eZ (U:=aS) 0 zr zr zr zr zr zr ?_|refine eZ (U:=aS) 1 zr zr zr zr zr zr ?_|refine eZ (U:=aS) 2 zr zr zr zr zr zr ?_|refine eZ (U:=aS) 3 zr zr zr zr zr zr ?_|refine eZ (U:=aS) 4 zr zr zr zr zr zr ?_|refine eZ (U:=aS) 5 zr zr zr zr zr zr ?_|refine ix (U:=aS) 0 zr zr zr zr zr zr ?_|refine ix (U:=aS) 1 zr zr zr zr zr zr ?_|refine ix (U:=aS) 2 zr zr zr zr zr zr ?_)|(refine uu ?_;first|refine xd zr zr zr ?_|refine xe zr zr zr ?_)|(refine lQ ?_;first|refine J3 zr zr zr (by simp only[gn];omega) ?_|refine CY zr zr zr (by simp only[gn];omega) ?_)|(refine eP ?_;refine zE (U:=aS) zr zr zr zr zr zr (by simp only[gn];omega) ?_)|(refine aV ?_;first|refine eV (U:=aS) 0 gB zr zr zr zr zr zr zr zr zr ?_|refine eV (U:=aS) 1 gB zr zr zr zr zr zr zr zr zr ?_|refine eV (U:=aS) 2 gB zr zr zr zr zr zr zr zr zr ?_|refine eV (U:=aS) 3 gB zr zr zr zr zr zr zr zr zr ?_)|refine FU ?_));exact h.out)):B:=h ⟨a⟩
def iV := @J1 Tryz.prog aS jS
def aj := @Ah Tryz.prog aS jS
def aR := @Qh Tryz.prog aS jS
def bI := @acd Tryz.prog aS jS
def aX := @Qd Tryz.prog aS jS
def bB := @Ip Tryz.prog aS jS
def ij := @FR Tryz.prog aS jS
def lX := @Ss Tryz.prog aS jS
def mM := @Qe Tryz.prog aS jS
def jq := @FQ Tryz.prog aS jS
def lY := @C2 Tryz.prog aS jS
def cp := @eV Tryz.prog aS jS
def cG := @ace Tryz.prog aS jS
def aC := @Sw Tryz.prog aS jS
def dB := @Ms Tryz.prog aS jS
def bX := @Mr Tryz.prog aS jS
def iU := @zC Tryz.prog aS jS
def lZ := @ix Tryz.prog aS jS
def iT := @Io Tryz.prog aS jS
end Go.Proofs.YtdigdgohdpeebaaGreatDoor
namespace Go.Proofs.YtdigdgohdpeebaaGreatDoor
open Go Go.SL
def PF{A:HP}{v:Value}{bs:List UInt8}(hv:Vw A v bs.length (bV bs))(h:0<bs.length):∃b o c,v = .slice (some ⟨b,o,none⟩) bs.length c:=hv.some (by cases bs with
 | nil=>simp at h
 | cons x l=>simp[bV])
def wU{bs:List UInt8}{i:Nat}(h:i<bs.length):(bV bs)[i]?=some (u8 (bs.getD i 0)):=by
 rw[List.getD_eq_getElem?_getD]
 simp[bV,h]
def xJ{x q:Nat}(y:Nat)(h:x*2 ^ (min q 64)=y)(hy:y<9223372036854775808):Value.int .i64 (IntKind.i64.wrap ((x:Int)*2 ^ (min ((q:Int).toNat) IntKind.i64.bits))) = .int .i64 (y:Int):=by
 have e:(x:Int)*2 ^ (min ((q:Int).toNat) IntKind.i64.bits)=(y:Int):=by
  show(x:Int)*2 ^ (min q 64)=_
  rw[← h];push_cast;rfl
 rw[e,cQ (by simp only[gn];omega)]
end Go.Proofs.YtdigdgohdpeebaaGreatDoor
namespace Go.SL
def uv(n:Nat):List UInt8:=if n<128 then [UInt8.ofNat n]else UInt8.ofNat (n%128+128)::uv (n/128)
termination_by n
decreasing_by omega
def gb{n:Nat}(h:n<128):uv n=[UInt8.ofNat n]:=by rw[uv,if_pos h]
def xo{n:Nat}(h:¬n<128):uv n=UInt8.ofNat (n%128+128)::uv (n/128):=by rw[uv,if_neg h]
def xl:∀(k n:Nat),n<128 ^ (k+1)→(uv n).length≤k+1
 | 0,n,h=>by rw[gb (by simpa using h)];simp
 | k+1,n,h=>by
  by_cases hn:n<128
  ·rw[gb hn];simp
  ·rw[xo hn,List.length_cons]
   have:=xl k (n/128) (Nat.div_lt_of_lt_mul (by rw[Nat.pow_succ,Nat.mul_comm]at h;exact h))
   omega
def pI{n:Nat}(h:n<18446744073709551616):(uv n).length≤10:=xl 9 n (Nat.lt_of_lt_of_le h (by decide))
def Gw(n:Nat):0<(uv n).length:=by
 by_cases h:n<128
 ·rw[gb h];simp
 ·rw[xo h];simp
def abX(m:Nat):Value.int .u8 (IntKind.u8.wrap (m:Int)) = .int .u8 ((m%256:Nat):Int):=by
 have h:IntKind.u8.wrap (m:Int)=(m:Int)%256:=by simp[IntKind.wrap,IntKind.bits,IntKind.signed]
 rw[h];congr 1
def Rc(m:Nat):Value.int .u8 (IntKind.u8.wrap ((BitVec.ofInt IntKind.u8.bits ((m%256:Nat):Int) ||| BitVec.ofInt IntKind.u8.bits 128).toNat:Int))=u8 (UInt8.ofNat (m%128+128)):=by
 rw[N3 _ ag]
 simp only[u8,UInt8.toNat_ofNat']
 congr 1
 omega
def od:Nat→Nat→List UInt8→Option (Nat × List UInt8 × Bool)
 | _,_,[]=>none
 | i,acc,c::r=>if i=10∨(i=9∧1<c.toNat)then none else if c.toNat<128 then some (acc+c.toNat*2 ^ (7*i),r,decide (i=0∨0<c.toNat))else od (i+1) (acc+(c.toNat%128)*2 ^ (7*i)) r
def dj(bs:List UInt8):Nat × List UInt8 × Bool:=(od 0 0 bs).getD (0,[],false)
def cZ(bs:List UInt8):Option Nat:=if(dj bs).2.2=true∧(dj bs).2.1=[]then some (dj bs).1 else none
def IM{i acc c:Nat}(ha:acc<2 ^ (7*i))(hc:c<128):acc+c*2 ^ (7*i)<2 ^ (7*(i+1)):=by
 have h1:acc+c*2 ^ (7*i)<(c+1)*2 ^ (7*i):=by rw[Nat.add_mul,Nat.one_mul];omega
 have h2:(c+1)*2 ^ (7*i)≤128*2 ^ (7*i):=Nat.mul_le_mul_right _ ag
 have h3:2 ^ (7*(i+1))=128*2 ^ (7*i):=by rw[show 7*(i+1)=7*i+7 from by omega,Nat.pow_add,Nat.mul_comm]
 omega
def QR{i acc c:Nat}(hi:i≤9)(ha:acc<2 ^ (7*i))(hc:c<128)(h9:i=9→c≤1):acc+c*2 ^ (7*i)<18446744073709551616:=by
 by_cases h:i=9
 ·subst h
  have:=h9 rfl
  have h63:(2:Nat) ^ (7*9)=9223372036854775808:=by decide
  rw[h63]at ha ⊢
  have:c*9223372036854775808≤1*9223372036854775808:=Nat.mul_le_mul_right _ this
  omega
 ·have h1:=IM ha hc
  have h2:2 ^ (7*(i+1))≤2 ^ 63:=Nat.pow_le_pow_right ag ag
  omega
def JA:∀(k n i acc:Nat) (rest:List UInt8),n<128 ^ (k+1)→i+k≤8→(i≠0→n≠0)→od i acc (uv n++rest)=some (acc+n*2 ^ (7*i),rest,true)
 | k,n,i,acc,rest,hn,hik,h0=>by
  by_cases h:n<128
  ·rw[gb h]
   have e:(UInt8.ofNat n).toNat=n:=by simp only[UInt8.toNat_ofNat'];omega
   simp only[List.cons_append,List.nil_append,od,e]
   rw[if_neg ag,if_pos h]
   have:(i=0∨0<n):=by
    by_cases hi:i=0
    ·exact .inl hi
    ·exact .inr (by have:=h0 hi;omega)
   rw[decide_eq_true this]
  ·cases k with
   | zero=>simp at hn;omega
   | succ k =>
    rw[xo h]
    have e:(UInt8.ofNat (n%128+128)).toNat=n%128+128:=by simp only[UInt8.toNat_ofNat'];omega
    simp only[List.cons_append,od,e]
    rw[if_neg ag,if_neg ag,show(n%128+128)%128=n%128 from by omega,
     JA k (n/128) (i+1) _ rest (Nat.div_lt_of_lt_mul (by rw[Nat.pow_succ,Nat.mul_comm]at hn;exact hn)) ag (by intro _;omega)]
    have h3:n/128*2 ^ (7*(i+1))=n/128*128*2 ^ (7*i):=by rw[show 7*(i+1)=7+7*i from by omega,Nat.pow_add,Nat.mul_assoc]
    have h4:n%128*2 ^ (7*i)+n/128*128*2 ^ (7*i)=n*2 ^ (7*i):=by rw[← Nat.add_mul];congr 1;omega
    rw[h3,Nat.add_assoc,h4]
def JB{n:Nat}(h:n<9223372036854775808)(rest:List UInt8):dj (uv n++rest)=(n,rest,true):=by
 unfold dj
 rw[JA 8 n 0 0 rest (Nat.lt_of_lt_of_le h (by decide)) ag (by intro h;exact absurd rfl h)]
 simp
def uM{n:Nat}(h:n<9223372036854775808):cZ (uv n)=some n:=by
 have:=JB h []
 rw[List.append_nil]at this
 unfold cZ
 rw[this];simp
def mh(bs:List UInt8):Option (Nat × Nat) :=
 if 1≤bs.length then match cZ (bs.take 1)with
  | some n=>some (1,n)
  | none=>if 2≤bs.length then(cZ (bs.take 2)).map fun n=>(2,n)else none
 else none
def oF{bs:List UInt8}{n:Nat}(h:cZ bs=some n)(hl:bs.length≤2):n<16384:=by
 unfold cZ dj at h
 split at h
 ·rename_i hh
  cases h
  match bs,hl with
  | [],_=>simp[od]at hh
  | [a],_ =>
   by_cases ha:a.toNat<128
   ·simp[od,ha];omega
   ·simp[od,ha]at hh
  | [a,b],_ =>
   by_cases ha:a.toNat<128
   ·simp[od,ha];omega
   ·by_cases hb:b.toNat<128
    ·simp[od,ha,hb];omega
    ·simp[od,ha,hb]at hh
 ·cases h
end Go.SL
namespace Go.Proofs.YtdigdgohdpeebaaGreatDoor
open Go Go.SL
variable{A:HP}{bs:List UInt8}{n:Nat}{a:Option Addr}
attribute [local irreducible] J K aE Ends ae az aQ bP bj aT aU bp
def mE(n:Nat)(h:n<18446744073709551616):aE Tryz.prog 84 [.int .u64 (n:Int)] [] (fun r H=>H=[az 5 1 r (uv n).length (bV (uv n))]):=by
 refine aE.au Tryz.func84 Tryz.ntmps84 fun G F R hE=>?_
 refine go ?_
 first|refine ai (bO 5 1 none _) ?_|refine aI (bO 5 1 none _) ?_
 have acP:=pI h
 refine bz (fun s:Nat × List UInt8 × Value=>s.2.1++uv s.1=uv n∧s.1≤n) (fun s=>s.1)
  (fun s=>[(0,.int .u64 (s.1:Int)),(3,s.2.2)])
  (fun s=>az 5 1 s.2.2 s.2.1.length (bV s.2.1)::F) (n,[],.slice none 0 0) ⟨rfl,Nat.le_refl _⟩ rfl cm ah ?_
 rintro⟨m,done,v⟩⟨hm,YM⟩ ih
 simp only at hm YM
 have hlen:done.length+(uv m).length≤10:=by rw[← List.length_append,hm];exact acP
 have lA:=Gw m
 first|refine aN 0 rfl ?_|refine dg 0 rfl ?_
 rintro va vc hve
 simp only at hve
 subst hve
 refine go ?_
 refine aq zr zr ?_ ?_
 ·intro fg
  simp only at fg
  have tN:¬m<128:=by omega
  refine go ?_
  refine iV zr zr zr zr zr zr ?_
  refine aB 10 (.int .u8 ((m%256:Nat):Int)) rfl (abX m) (go ?_)
  refine aB 11 (u8 (UInt8.ofNat (m%128+128))) rfl (Rc m) ?_
  refine aj (cs:=bV [UInt8.ofNat (m%128+128)]) zr zr zr zr zr zr zr zr zr bD ?_
  intro b1
  refine aR (mm:=1) (news:=bV [UInt8.ofNat (m%128+128)]) 1 0 zr zr zr zr zr zr zr zr zr zr zr zr (Vw.ae rfl) rfl (cO _) (by simp only;omega) (by show(_+1)*1≤_;simp only;omega) (fun _=>rfl) bD ?_
  intro v1
  rw[show bV done++bV [UInt8.ofNat (m%128+128)]=bV (done++[UInt8.ofNat (m%128+128)])from by simp[bV],show done.length+1=(done++[UInt8.ofNat (m%128+128)]).length from by simp]
  first|refine aN 1 rfl ?_|refine dg 1 rfl ?_
  rintro wa wc rfl
  refine go ?_
  refine jo zr zr zr ag ?_
  refine aB 7 (.int .u64 ((m/128:Nat):Int)) rfl (congrArg (Value.int .u64) (by show(m:Int)/128=_;omega)) ?_
  refine go ?_
  refine aM ih (m/128,done++[UInt8.ofNat (m%128+128)],_) rfl ⟨by simp only[List.append_assoc,List.singleton_append];rw[← xo tN];exact hm,by simp only;omega⟩ (by simp only;omega) cm ah
 ·intro cW
  simp only at cW
  have u6:m<128:=by omega
  refine go ?_
  refine aB 16 (u8 (UInt8.ofNat m)) rfl (by simp only[u8,UInt8.toNat_ofNat'];congr 1;omega) ?_
  refine aj (cs:=bV [UInt8.ofNat m]) zr zr zr zr zr zr zr zr zr bD ?_
  intro b1
  refine aR (mm:=1) (news:=bV [UInt8.ofNat m]) 1 0 zr zr zr zr zr zr zr zr zr zr zr zr (Vw.ae rfl) rfl (cO _) (by simp only;omega) (by show(_+1)*1≤_;simp only;omega) (fun _=>rfl) bD ?_
  intro v1
  rw[show bV done++bV [UInt8.ofNat m]=bV (uv n)from by rw[← hm,gb u6];simp[bV],show done.length+1=(uv n).length from by rw[← hm,gb u6];simp]
  refine go ?_
  first|refine aL hE Tryz.func84 rfl _ zr zr ah|refine bU hE Tryz.func84 rfl _ zr zr ah
def AD{x q y:Nat}(hq:q≤64)(h:x*2 ^ q=y)(hy:y<18446744073709551616):Value.int .u64 (IntKind.u64.wrap ((x:Int)*2 ^ (min ((q:Int).toNat) IntKind.u64.bits))) = .int .u64 (y:Int):=by
 have e:(x:Int)*2 ^ (min ((q:Int).toNat) IntKind.u64.bits)=(y:Int):=by
  show(x:Int)*2 ^ (min q 64)=_
  rw[Nat.min_eq_left hq,← h];push_cast;rfl
 rw[e,cQ (by simp only[gn];omega)]
def Eb(A:HP):Vw A (.slice none 0 0) ([]:List UInt8).length (bV []):=⟨none,0,rfl,.inl rfl⟩
set_option maxRecDepth 20000 in
def Jz(A:HP)(v:Value)(bs:List UInt8)(hv:Vw A v bs.length (bV bs))(jx:∃a c,v = .slice a bs.length c∧bs.length≤c)(hl:bs.length≤9223372036854775807) :
    aE Tryz.prog 214 [v] [A] (fun r H=>∃rv,r = .tuple #[.int .u64 ((dj bs).1:Int),rv,.bool (dj bs).2.2]∧(Vw A rv (dj bs).2.1.length (bV (dj bs).2.1)∧∃a c,rv = .slice a (dj bs).2.1.length c∧(dj bs).2.1.length≤c)∧H=[A]):=by
  obtain⟨a0,c0,rfl,Aa⟩:=jx
  refine aE.au Tryz.func214 Tryz.ntmps214 fun G F R hE=>?_
  refine go ?_
  refine bz (fun s:Nat × Nat=>s.1≤bs.length∧s.1≤10∧(s.1≤9→s.2<2 ^ (7*s.1))∧od 0 0 bs=od s.1 s.2 (bs.drop s.1)) (fun s=>bs.length-s.1)
    (fun s=>[(0,.slice a0 bs.length c0),(5,.int .u64 (s.2:Int)),(8,.slice a0 bs.length c0),(9,.int .i64 bs.length),(10,.int .i64 s.1)])
    (fun _=>A::F) (0,0) ⟨Nat.zero_le _,ag,by simp,by simp⟩ rfl cm ah ?_
  rintro⟨i,acc⟩⟨hi,yB,wy,lN⟩ ih
  simp only at hi yB wy lN
  refine go ?_
  refine aq zr zr ?_ ?_
  case' refine_2 =>
    intro fg
    simp only at fg
    have Xn:dj bs=(0,[],false):=by
      unfold dj;rw[lN,List.drop_eq_nil_of_le ag];simp[od]
    refine go ?_
    rw[Xn]at hE
    first|refine ad hE Tryz.func214 zr zr ⟨_,rfl,⟨Eb A,none,0,rfl,Nat.le_refl _⟩,rfl⟩|refine bU hE Tryz.func214 rfl _ rfl ⟨_,rfl,⟨Eb A,none,0,rfl,Nat.le_refl _⟩,rfl⟩ ah
  intro cW
  simp only at cW
  have gh:i<bs.length:=by omega
  obtain⟨ba,oa,ca,fO⟩:=PF hv ag
  simp only[Value.slice.injEq,true_and]at fO
  obtain⟨rfl,rfl⟩:=fO
  obtain⟨c,hc⟩:∃c,bs[i]?=some c:=⟨bs[i],by simp⟩
  have YW:bs.drop i=c::bs.drop (i+1):=by
    rw[List.drop_eq_getElem_cons gh];congr 1
    rw[List.getElem?_eq_getElem gh]at hc;exact Option.some.inj hc
  have Tm:c.toNat<256:=c.toNat_lt
  rw[YW]at lN
  simp only[od]at lN
  refine go ?_
  refine bI i zr zr zr zr zr zr zr zr gh ?_
  refine aX 0 i zr zr zr hv rfl (nC hc) zr zr ?_
  repeat'(first|(with_reducible intro pH)|refine gO ?_|refine qE ?_ ?_|refine iy zr zr zr zr ?_ ?_|refine aq zr zr ?_ ?_)
  case' refine_1 =>
    have lO:(i=10∨(i=9∧1<c.toNat)):=by simp only at *;omega
  case' refine_2.refine_1.refine_1 =>
    have lO:(i=10∨(i=9∧1<c.toNat)):=by simp only at *;omega
  case' refine_2.refine_1.refine_2 => 
    have m9:¬(i=10∨(i=9∧1<c.toNat)):=by simp only at *;omega
  case' refine_2.refine_2 => 
    have m9:¬(i=10∨(i=9∧1<c.toNat)):=by simp only at *;omega
  any_goals (
    have Xn:dj bs=(0,[],false):=by unfold dj;rw[lN,if_pos lO];rfl
    rw[Xn]at hE
    (first|refine ad hE Tryz.func214 zr zr ⟨_,rfl,⟨Eb A,none,0,rfl,Nat.le_refl _⟩,rfl⟩|refine bU hE Tryz.func214 rfl _ rfl ⟨_,rfl,⟨Eb A,none,0,rfl,Nat.le_refl _⟩,rfl⟩ ah))
  all_goals(
    have hi9:i≤9:=by omega
    have hac:=wy hi9
    have S9:c.toNat%128<128:=Nat.mod_lt _ ag
    have MW:=QR (c:=c.toNat%128) hi9 hac S9 (by intro h;omega)
    refine aB 27 (.int .u8 ((c.toNat%128:Nat):Int)) rfl (congrArg (Value.int .u8) (CL _ Tm)) (go ?_)
    refine ib zr zr zr (by simp only[gn];omega) ?_
    refine aB 30 (.int .i64 ((7*i:Nat):Int)) rfl (congrArg (Value.int .i64) (by simp only;omega)) ?_
    refine mK zr zr zr ag ?_
    refine aB 31 (.int .u64 ((c.toNat%128*2 ^ (7*i):Nat):Int)) rfl (AD ag rfl ag) (go ?_)
    refine bu 5 (.int .u64 ((acc+c.toNat%128*2 ^ (7*i):Nat):Int)) rfl (congrArg (Value.int .u64) (WS hac MW)) (go ?_)
    refine aq zr zr ?_ ?_
    · intro aeu
      have hcm:c.toNat%128=c.toNat:=by omega
      have Ho:dj bs=(acc+c.toNat%128*2 ^ (7*i),bs.drop (i+1),decide (i=0∨0<c.toNat)):=by
        unfold dj;rw[lN,if_neg m9,if_pos ag,hcm];rfl
      refine aH (fun w=>Sat G w ([])) (kj 0 14 .nil) rfl ak ak ak eo ?_
      refine go ?_
      refine bB (p:=(i:Int)+1) (q:=(bs.length:Int)) zr zr zr zr zr zr zr ag ag (.inl rfl) ?_
      refine aB 39 (.slice (sliceAt (some ⟨ba,oa,none⟩) c0 (i+1) 1) (bs.drop (i+1)).length (c0-(i+1))) rfl (by rw[show((i:Int)+1).toNat=i+1 from by omega,show((bs.length:Int)).toNat=bs.length from by omega,List.length_drop];rfl) ?_
      have Je:Vw A (.slice (sliceAt (some ⟨ba,oa,none⟩) c0 (i+1) 1) (bs.drop (i+1)).length (c0-(i+1))) (bs.drop (i+1)).length (bV (bs.drop (i+1))):=by
        have:=hv.Pw (s:=1) (by rw[bt];omega) Aa (i+1) ag
        rw[List.length_drop,show bV (bs.drop (i+1))=(bV bs).drop ((i+1)*1)from by simp[bV,List.map_drop]]
        exact this
      rw[Ho]at hE
      repeat'(first|(with_reducible intro pH)|refine gO ?_|refine qE ?_ ?_|refine iy zr zr zr zr ?_ ?_|refine aq zr zr ?_ ?_)
      all_goals first
        | (have MR:i=0:=(by simp only at pH;omega)
           rw[decide_eq_true (Or.inl MR:i=0∨0<c.toNat)]at hE
           (first|refine ad hE Tryz.func214 zr zr ⟨_,rfl,⟨Je,_,_,rfl,by simp only[List.length_drop];omega⟩,rfl⟩|refine bU hE Tryz.func214 rfl _ rfl ⟨_,rfl,⟨Je,_,_,rfl,by simp only[List.length_drop];omega⟩,rfl⟩ ah))
        | (have MR:¬i=0:=(by simp only at pH;omega)
           rw[show decide (i=0∨0<c.toNat)=decide ((0:Int)<(c.toNat:Int))from decide_eq_decide.2 ⟨fun h=>by omega,fun h => .inr ag⟩]at hE
           (first|refine ad hE Tryz.func214 zr zr ⟨_,rfl,⟨Je,_,_,rfl,by simp only[List.length_drop];omega⟩,rfl⟩|refine bU hE Tryz.func214 rfl _ rfl ⟨_,rfl,⟨Je,_,_,rfl,by simp only[List.length_drop];omega⟩,rfl⟩ ah))
    · intro aea
      refine go ?_
      refine aM ih (i+1,acc+c.toNat%128*2 ^ (7*i)) rfl ⟨by simp only;omega,by simp only;omega,fun _=>IM hac S9,by rw[lN,if_neg m9,if_neg ag]⟩ (by simp only;omega) cm ah)
def eM(A:HP)(v:Value)(bs:List UInt8):Prop:=Vw A v bs.length (bV bs)∧∃a c,v = .slice a bs.length c∧bs.length≤c
def eM.cut{c:Nat}(h:eM A (.slice a n c) bs)(p:Nat)(hp:p≤bs.length):eM A (.slice (sliceAt a c p 1) (bs.length-p) (c-p)) (bs.drop p):=by
 obtain⟨hv,a',c',he,hc⟩:=h
 simp only[Value.slice.injEq]at he
 obtain⟨rfl,rfl,rfl⟩:=he
 refine⟨?_,_,_,by rw[List.length_drop],by rw[List.length_drop];omega⟩
 have:=hv.Pw (s:=1) (by rw[bt];omega) hc p hp
 rw[List.length_drop,show bV (bs.drop p)=(bV bs).drop (p*1)from by simp[bV,List.map_drop]]
 exact this
def eM.front{c:Nat}(h:eM A (.slice a n c) bs)(q:Nat)(hq:q≤bs.length):eM A (.slice (sliceAt a c 0 1) q c) (bs.take q):=by
 obtain⟨hv,a',c',he,hc⟩:=h
 simp only[Value.slice.injEq]at he
 obtain⟨rfl,rfl,rfl⟩:=he
 have hl:(bs.take q).length=q:=by rw[List.length_take];omega
 refine⟨?_,_,_,by rw[hl],by rw[hl];omega⟩
 have:=hv.ad1 (s:=1) q
 rw[hl,show bV (bs.take q)=(bV bs).take (q*1)from by simp[bV,List.map_take]]
 exact this
def eM.mono{B:HP}{v:Value}(h:eM A v bs)(X0:∀h,B h→∃h',sub h' h∧A h'):eM B v bs:=⟨h.1.mono X0,h.2⟩
def eM.piece{c:Nat}(h:eM A (.slice a n c) bs)(p q:Nat)(hp:p≤q)(hq:q≤bs.length):eM A (.slice (sliceAt a c p 1) (q-p) (c-p)) ((bs.drop p).take (q-p)):=by
 have h1:=h.cut p ag
 obtain⟨hv,a',c',he,hc⟩:=h1
 have hlen:((bs.drop p).take (q-p)).length=q-p:=by rw[List.length_take,List.length_drop];omega
 refine⟨?_,_,_,by rw[hlen],by rw[hlen];obtain⟨_,_,_,yF,mT⟩:=h;simp only[Value.slice.injEq]at yF;omega⟩
 obtain⟨a2,o7,yF,h0|⟨b,o,ha,mT⟩⟩:=hv
 ·simp only[Value.slice.injEq]at yF
  have:(bs.drop p)=[]:=by simpa[bV]using h0
  refine⟨_,_,by rw[hlen],.inl ?_⟩
  rw[this];simp[bV]
 ·simp only[Value.slice.injEq]at yF
  refine⟨_,_,by rw[hlen],.inr ⟨b,o,by rw[yF.1,ha],fun h' hA j x hj=>?_⟩⟩
  refine mT h' hA j x ?_
  rw[show bV ((bs.drop p).take (q-p))=(bV (bs.drop p)).take (q-p)from by simp[bV,List.map_take]]at hj
  rw[List.getElem?_take]at hj
  split at hj
  ·exact hj
  ·cases hj
def mF(A:HP)(v:Value)(bs:List UInt8)(hv:eM A v bs)(hl:bs.length≤9223372036854775807) :
  aE Tryz.prog 192 [v] [A] (fun r H=>r=(match cZ bs with
   | some n => .tuple #[.int .u64 (n:Int),.int .i64 0]
   | none => .tuple #[.int .u64 0,.int .i64 2])∧H=[A]):=by
 refine aE.au Tryz.func192 Tryz.ntmps192 fun G F R hE=>?_
 refine go ?_
 refine aF (Jz A v bs hv.1 hv.2 hl) ?_
 rintro _ _⟨rv,rfl,⟨Je,a,c,rfl,_⟩,rfl⟩
 cases kQ:(dj bs).2.2 with
 | false =>
  have hn:cZ bs=none:=by unfold cZ;rw[if_neg (by rw[kQ];simp)]
  rw[hn]at hE
  refine go ?_
  refine ad hE Tryz.func192 zr zr ⟨rfl,rfl⟩
 | true =>
  repeat'(first|(with_reducible intro pH)|refine gO ?_|refine aq zr zr ?_ ?_)
  ·have hn:cZ bs=none:=by unfold cZ;rw[if_neg (fun h=>by rw[h.2]at pH;simp at pH)]
   rw[hn]at hE
   refine ad hE Tryz.func192 zr zr ⟨rfl,rfl⟩
  ·have hn:cZ bs=some (dj bs).1:=by unfold cZ;rw[if_pos ⟨kQ,List.eq_nil_of_length_eq_zero ag⟩]
   rw[hn]at hE
   refine ad hE Tryz.func192 zr zr ⟨rfl,rfl⟩
def aZ(bs:List UInt8):List UInt8:=uv bs.length++bs
end Go.Proofs.YtdigdgohdpeebaaGreatDoor
namespace Go.Proofs.YtdigdgohdpeebaaGreatDoor
open Go Go.SL
def IN{e:TypeId}{v:Value}{bs:List UInt8}(h0:∃h,az e 1 v bs.length (bV bs) h):eM (az e 1 v bs.length (bV bs)) v bs:=by
 refine⟨Vw.oR e 1 v bs.length (bV bs) h0,?_⟩
 obtain⟨h,hl,⟨a,rfl,hn,_⟩|⟨b,o,cap,pre,bR,rfl,hp,hn,hc,_⟩⟩:=h0
 ·exact⟨a,0,by rw[hn],ag⟩
 ·exact⟨_,cap,rfl,hn⟩
section
variable{P:Program}{f:FuncId}{n:Nat}{R:Ending→World→Prop}{G:cI}{k:List Item}{L:fD}{H:List HP}{S:World→Prop}{all:Array Oper}{rest:Pl}
def gM{e:TypeId}{v:Value}{bs:List UInt8}(i:Nat)(hi:cE H i=some (az e 1 v bs.length (bV bs)))(h:eM (az e 1 v bs.length (bV bs)) v bs→J P f n R G S all rest k L H):J P f n R G S all rest k L H :=
 zA fun w hw=>by
  obtain⟨h1,_,hA⟩:=hw.lj hi
  exact h (IN ⟨h1,hA⟩)
def qx{e:TypeId}{v:Value}{bs:List UInt8}(i:Nat)(hi:cE H i=some (az e 1 v bs.length (bV bs)))(h:eM (az e 1 v bs.length (bV bs)) v bs→K P f n R G k L H):K P f n R G k L H :=
 rX fun⟨w,hw⟩=>by
  obtain⟨h1,_,hA⟩:=hw.lj hi
  exact h (IN ⟨h1,hA⟩)
end
def bh{H:List HP}{i:Nat}{A:HP}(hi:cE H i=some A):∀h,Sep H h→∃h',sub h' h∧A h':=fun h hs=>by
 rw[dI]at hi
 obtain⟨h',OL,hA⟩:=ao.perm (di hi) h hs
 obtain⟨h1,h2,ha,_,hd,hj⟩:=hA
 refine⟨h1,fun b o hb=>?_,ha⟩
 refine OL b o ?_
 rw[hj b,hb];rfl
end Go.Proofs.YtdigdgohdpeebaaGreatDoor
namespace Go.Proofs.YtdigdgohdpeebaaGreatDoor
open Go Go.SL
def mi(x:Int × List UInt8):List UInt8:=UInt8.ofNat x.1.toNat::(uv x.2.length++x.2)
def eB(l:List (Int × List UInt8)):List UInt8:=l.flatMap mi
def pM:Nat→List UInt8→List (Int × List UInt8)
 | 0,_=>[]
 | f+1,b=>match b with
  | []=>[]
  | c::r=>if(dj r).2.2=true∧(dj r).1≤(dj r).2.1.length then((c.toNat:Int),(dj r).2.1.take (dj r).1)::pM f ((dj r).2.1.drop (dj r).1)else [(0,[])]
def fH:Int→List (Int × List UInt8)→Bool
 | _,[]=>true
 | last,x::l=>decide (last<x.1) && decide (x.1≤63) && fH x.1 l
def pw(b:List UInt8):Option (List (Int × List UInt8)):=if 65536<b.length then none else if fH 0 (pM b.length b)then some (pM b.length b)else none
structure It where
 n:Int
 v:Value
 b:List UInt8
instance:Inhabited It:=⟨⟨0,.slice none 0 0,[]⟩⟩
def lT(x:It):List Value:=[.int .i64 x.n,x.v]
def js(x:It):(lT x).length=2:=rfl
def It.p(x:It):Int × List UInt8:=(x.n,x.b)
def uA(X:HP)(v:Value)(l:List It):Prop:=Vw X v l.length (l.flatMap lT)∧∀x∈l,eM X x.v x.b
def DV(a b:List (Int × List UInt8)):eB (a++b)=eB a++eB b:=by simp[eB]
def AI(l:List (Int × List UInt8))(i:Nat):(eB (l.take i)).length≤(eB l).length:=by
 conv=>rhs;rw[← List.take_append_drop i l]
 rw[DV,List.length_append];omega
def nR(l:List (Int × List UInt8))(i:Nat):Int:=match (l.take i).getLast? with
 | some x=>x.1
 | none=>0
def NC:∀(l:List (Int × List UInt8)) (last:Int) (i:Nat) (x:Int × List UInt8),fH last l=true→l[i]?=some x→(match (l.take i).getLast? with|some y=>y.1|none=>last)<x.1∧x.1≤63:=by
 intro l
 induction l with
 | nil=>intro last i x h hx;simp at hx
 | cons y l ih =>
  intro last i x h hx
  simp only[fH,Bool.and_eq_true,decide_eq_true_eq]at h
  cases i with
  | zero=>simp at hx;subst hx;simpa using h.1
  | succ i =>
   simp only[List.getElem?_cons_succ]at hx
   have:=ih y.1 i x h.2 hx
   rw[List.take_succ_cons]
   cases hl:l.take i with
   | nil=>rw[hl]at this;simpa using this
   | cons z r=>rw[hl]at this;rw[List.getLast?_cons_cons];exact this
def ym{l:List (Int × List UInt8)}{i:Nat}{x:Int × List UInt8}(h:l[i]?=some x):nR l (i+1)=x.1:=by
 unfold nR
 rw[List.take_add_one,h];simp
def NB:∀(l:List (Int × List UInt8)) (last:Int),fH last l=true→0≤last→∀x∈l,0<x.1:=by
 intro l
 induction l with
 | nil=>intro last h h0 x hx;cases hx
 | cons y l ih =>
  intro last h h0 x hx
  simp only[fH,Bool.and_eq_true,decide_eq_true_eq]at h
  rcases List.mem_cons.1 hx with rfl|hx
  ·omega
  ·exact ih y.1 h.2 ag x hx
def Px:∀(bs:List UInt8) (i acc n:Nat) (r:List UInt8) (ok:Bool),od i acc bs=some (n,r,ok)→r.length<bs.length:=by
 intro bs
 induction bs with
 | nil=>intro i acc n r ok h;simp[od]at h
 | cons c bs ih =>
  intro i acc n r ok h
  simp only[od]at h
  split at h
  ·cases h
  ·split at h
   ·simp only[Option.some.injEq,Prod.mk.injEq]at h
    rw[← h.2.1,List.length_cons];omega
   ·have:=ih _ _ n r ok h
    rw[List.length_cons];omega
def qo(bs:List UInt8):(dj bs).2.1.length≤bs.length:=by
 unfold dj
 cases h:od 0 0 bs with
 | none=>simp
 | some x =>
  obtain⟨n,r,ok⟩:=x
  have:=Px bs 0 0 _ _ _ h
  simp only[Option.getD_some];omega
def Au:∀(f g:Nat) (b:List UInt8),b.length≤f→b.length≤g→pM f b=pM g b
 | 0,0,_,_,_=>rfl
 | 0,g+1,b,hf,_=>by
  have:b=[]:=List.eq_nil_of_length_eq_zero ag
  subst this;rfl
 | f+1,0,b,_,hg=>by
  have:b=[]:=List.eq_nil_of_length_eq_zero ag
  subst this;rfl
 | f+1,g+1,[],_,_=>rfl
 | f+1,g+1,c::r,hf,hg=>by
  rw[pM,pM]
  have:=qo r
  rw[List.length_cons]at hf hg
  split
  ·rw[Au f g _ (by rw[List.length_drop];omega) (by rw[List.length_drop];omega)]
  ·rfl
def eW(b:List UInt8):List (Int × List UInt8):=pM b.length b
def xx:eW []=[]:=rfl
def Av{c:UInt8}{r:List UInt8}(h:(dj r).2.2=true∧(dj r).1≤(dj r).2.1.length):eW (c::r)=((c.toNat:Int),(dj r).2.1.take (dj r).1)::eW ((dj r).2.1.drop (dj r).1):=by
 have h1:=qo r
 unfold eW
 rw[List.length_cons,pM]
 rw[if_pos h,Au _ _ _ (by rw[List.length_drop];omega) (Nat.le_refl _)]
def Dr{c:UInt8}{r:List UInt8}(h:¬((dj r).2.2=true∧(dj r).1≤(dj r).2.1.length)):eW (c::r)=[(0,[])]:=by
 unfold eW
 rw[List.length_cons,pM]
 rw[if_neg h]
def tk:∀(f:Nat) (b:List UInt8),b.length≤f→(eW b).length≤b.length
 | 0,b,h=>by
  have:b=[]:=List.eq_nil_of_length_eq_zero ag
  subst this;simp[xx]
 | f+1,[],_=>by simp[xx]
 | f+1,c::r,h=>by
  have h1:=qo r
  rw[List.length_cons]at h
  by_cases hk:(dj r).2.2=true∧(dj r).1≤(dj r).2.1.length
  ·have h2:=tk f ((dj r).2.1.drop (dj r).1) (by rw[List.length_drop];omega)
   rw[List.length_drop]at h2
   rw[Av hk,List.length_cons,List.length_cons]
   omega
  ·rw[Dr hk,List.length_cons];simp
def tR(xs:List (Int × List UInt8))(i:Nat):Bool:=match xs[i]? with
 | some x=>decide (nR xs i<x.1) && decide (x.1≤63)
 | none=>true
def yM{xs:List (Int × List UInt8)}{i:Nat}{x:Int × List UInt8}(h:xs[i]?=some x):tR xs i=(decide (nR xs i<x.1) && decide (x.1≤63)):=by unfold tR;rw[h]
def ND:∀(l:List (Int × List UInt8)) (last:Int),(fH last l=true↔∀i x,l[i]?=some x→(match (l.take i).getLast? with|some y=>y.1|none=>last)<x.1∧x.1≤63):=by
 intro l
 induction l with
 | nil=>intro last;simp[fH]
 | cons y l ih =>
  intro last
  simp only[fH,Bool.and_eq_true,decide_eq_true_eq,ih]
  constructor
  ·rintro⟨⟨h1,h2⟩,h3⟩ i x hx
   cases i with
   | zero=>simp at hx;subst hx;exact⟨h1,h2⟩
   | succ i =>
    have:=h3 i x (by simpa using hx)
    rw[List.take_succ_cons]
    cases hl:l.take i with
    | nil=>rw[hl]at this;simpa using this
    | cons z r=>rw[hl]at this;rw[List.getLast?_cons_cons];exact this
  ·intro h
   refine⟨by simpa using h 0 y rfl,fun i x hx=>?_⟩
   have:=h (i+1) x (by simpa using hx)
   rw[List.take_succ_cons]at this
   cases hl:l.take i with
   | nil=>rw[hl]at this;simpa using this
   | cons z r=>rw[hl,List.getLast?_cons_cons]at this;exact this
def AG(xs:List (Int × List UInt8)):fH 0 xs=true↔∀i,i<xs.length→tR xs i=true:=by
 rw[ND]
 constructor
 ·intro h i hi
  have hx:xs[i]?=some xs[i]:=by simp
  rw[yM hx,Bool.and_eq_true,decide_eq_true_eq,decide_eq_true_eq]
  exact h i _ hx
 ·intro h i x hx
  have:=h i (List.getElem?_eq_some_iff.1 hx).1
  rw[yM hx,Bool.and_eq_true,decide_eq_true_eq,decide_eq_true_eq]at this
  exact this
def db(b:List UInt8):Dg:=cH 0 [b]
def iv(l r:Dg):Dg:=cH 1 [l.bs,r.bs]
def bH:List Dg→List Dg
 | a::b::r=>iv a b::bH r
 | l=>l
def cY:∀l:List Dg,(bH l).length=(l.length+1)/2
 | []=>rfl
 | [a]=>by simp[bH]
 | a::b::r=>by simp only[bH,List.length_cons,cY r];omega
def sJ:∀(l:List Dg) (i:Nat),(bH l)[i]?=match l[2*i]?,l[2*i+1]? with
  | some a,some b=>some (iv a b)
  | x,_=>x
 | [],i=>by simp[bH]
 | [a],i=>by
  cases i with
  | zero=>rfl
  | succ i=>simp[bH,show 2*(i+1)=2*i+1+1 from by omega]
 | a::b::r,i=>by
  cases i with
  | zero=>rfl
  | succ i =>
   simp only[bH,List.getElem?_cons_succ,show 2*(i+1)=2*i+1+1 from by omega]
   exact sJ r i
def upL:Nat→List Dg→List Dg
 | 0,l=>l
 | f+1,l=>if l.length≤1 then l else upL f (bH l)
def xR(l:List Dg):Dg:=if l=[]then cH 2 []else((upL l.length l).head?).getD Dg.zero
structure Bl where
 d:Dg
 size:Int
 piece:Int
 root:Dg
deriving DecidableEq
instance:Inhabited Bl:=⟨⟨Dg.zero,0,0,Dg.zero⟩⟩
def Bl.zero:Bl:=⟨Dg.zero,0,0,Dg.zero⟩
def bJ(x:Bl):List Value:=dC x.d++[.int .i64 x.size,.int .i64 x.piece]++dC x.root
def wS(x:Bl):(bJ x).length=66:=rfl
def bF(x:Bl):Bool:=decide (1≤x.size∧x.size≤1048576∧16≤x.piece∧x.piece≤16384∧(x.size+x.piece-1)/x.piece≤1024)
def cq(x:Bl):Int:=if bF x then(x.size+x.piece-1)/x.piece else 0
def dJ(x:Bl)(i:Int):Option (Int × Int):=if i<0∨cq x≤i then none else some (i*x.piece,min x.piece (x.size-i*x.piece))
def gz(k:Nat):Nat→List UInt8→List (List UInt8)
 | 0,_=>[]
 | f+1,b=>if b=[]then []else b.take k::gz k f (b.drop k)
def dt(b:List UInt8)(piece:Int):Option (List Dg):=if bF ⟨Dg.zero,b.length,piece,Dg.zero⟩then some ((gz piece.toNat b.length b).map db)else none
def gx(b:List UInt8)(piece:Int):Option Bl:=(dt b piece).map fun l=>⟨dW b,b.length,piece,xR l⟩
def ej(x:Bl)(b:List UInt8):Bool:=decide (gx b x.piece=some x)
def pK:List Bl→Bool
 | []=>false
 | x::l=>l.any (fun y=>decide (y.d=x.d)) || pK l
def gY(l:List Bl):Nat:=if l.length<1∨16<l.length∨l.any (fun x => !bF x)=true then 1 else if pK l then 5 else 0
def ec(x:Bl):List (Int × List UInt8):=[(1,x.d.bs),(2,uv x.size.toNat),(3,uv x.piece.toNat),(4,x.root.bs)]
def jw:Nat→List Bl→List (Int × List UInt8)
 | _,[]=>[]
 | i,x::l=>((i:Int)+1,eB (ec x))::jw (i+1) l
def yT(l:List Bl):List UInt8:=eB (jw 0 l)
def yd(l:List Bl):Dg:=dW (yT l)
def tY(b:List UInt8):Dg:=if h:b.length=32 then⟨b,h⟩else Dg.zero
def mC(b:List UInt8):Option Bl:=match pw b with
 | some [(_,a),(_,s),(_,p),(n,r)]=>if n≠4∨a.length≠32∨r.length≠32 then none else match cZ s,cZ p with
  | some s,some p=>if 1048576<max s p then none else some ⟨tY a,s,p,tY r⟩
  | _,_=>none
 | _=>none
def iP:Nat→List (Int × List UInt8)→Option (List Bl)
 | _,[]=>some []
 | i,(n,b)::l=>match mC b with
  | some x=>if n≠(i:Int)+1 then none else(iP (i+1) l).map (x::·)
  | none=>none
def yX(b:List UInt8):Option (List Bl):=match pw b with
 | some l=>match iP 0 l with
  | some x=>if gY x=0 then some x else none
  | none=>none
 | none=>none
def IG{n:Nat}(h:n≤1048576):(uv n).length≤3:=xl 2 n ag
def yr(x:Bl)(h:bF x=true):(eB (ec x)).length≤78:=by
 simp only[bF,decide_eq_true_eq]at h
 have h1:=IG (n:=x.size.toNat) ag
 have h2:=IG (n:=x.piece.toNat) ag
 have h3:uv 32=[32]:=by rw[gb ag];rfl
 have h4:(uv (uv x.size.toNat).length).length=1:=by rw[gb ag];rfl
 have h5:(uv (uv x.piece.toNat).length).length=1:=by rw[gb ag];rfl
 simp only[eB,ec,mi,List.flatMap_cons,List.flatMap_nil,List.length_append,List.length_cons,List.length_nil,x.d.len,x.root.len,h3,h4,h5]
 omega
def vU:∀(l:List Bl) (i:Nat),i+l.length≤63→fH (i:Int) (jw i l)=true
 | [],i,_=>rfl
 | x::l,i,h=>by
  rw[List.length_cons]at h
  simp only[jw,fH,Bool.and_eq_true,decide_eq_true_eq]
  refine⟨⟨ag,ag⟩,?_⟩
  have:=vU l (i+1) ag
  rw[Int.natCast_add]at this
  exact this
def yp:∀(l:List Bl) (i:Nat),(∀x∈l,bF x=true)→(eB (jw i l)).length≤80*l.length
 | [],i,_=>by simp[jw,eB]
 | x::l,i,h=>by
  have h1:=yr x (h x (List.mem_cons_self ..))
  have h2:=yp l (i+1) fun y hy=>h y (List.mem_cons_of_mem _ hy)
  have h3:(uv (eB (ec x)).length).length=1:=by rw[gb ag];rfl
  simp only[eB]at h1 h2 h3
  simp only[jw,eB,List.flatMap_cons,List.length_append,mi,List.length_cons,h3]
  omega
def oX{l:List Bl}(h:gY l=0):l.length≤16∧1≤l.length∧∀x∈l,bF x=true:=by
 unfold gY at h
 split at h
 ·cases h
 ·rename_i h1
  rw[not_or,not_or]at h1
  refine⟨ag,ag,fun x hx=>?_⟩
  have:=h1.2.2
  simp only[Bool.not_eq_true,List.any_eq_false,Bool.not_eq_true',Bool.not_eq_false]at this
  have:=this x hx
  simpa using this
def Fe{l:List Bl}(h:gY l=0):(yT l).length≤1280:=by
 obtain⟨h1,h2,h3⟩:=oX h
 have:=yp l 0 h3
 unfold yT;omega
def HR{b:List UInt8}{l:List Bl}(h:yX b=some l):gY l=0:=by
 unfold yX at h
 split at h
 ·split at h
  ·split at h
   ·cases h;assumption
   ·cases h
  ·cases h
 ·cases h
end Go.Proofs.YtdigdgohdpeebaaGreatDoor
namespace Go.SL
open Go
def BP(n:Nat):UInt8:=UInt8.ofNat (if n<10 then 48+n else 87+n)
def lC(c:UInt8):Option Nat:=if 48≤c.toNat∧c.toNat≤57 then some (c.toNat-48)else if 97≤c.toNat∧c.toNat≤102 then some (c.toNat-87)else none
def lq(s:List UInt8)(i:Nat):Nat:=(lC (s.getD i 0)).getD 0
def vF(d:Dg)(i:Nat):UInt8:=BP (if i%2=0 then(d.at (i/2)).toNat/16 else(d.at (i/2)).toNat%16)
def g9(d:Dg):List UInt8:=(List.range 64).map (vF d)
def jB(d:Dg):(g9 d).length=64:=by simp[g9]
def nH(d:Dg){i:Nat}(h:i<64):(g9 d)[i]?=some (vF d i):=by simp[g9,h]
def Gf(s:List UInt8)(i:Nat):List UInt8:=(List.range 32).map fun j=>UInt8.ofNat (if 2*j+1<i then 16*lq s (2*j)+lq s (2*j+1)else if 2*j<i then lq s (2*j)else 0)
def kP(s:List UInt8)(i:Nat):(Gf s i).length=32:=by simp[Gf]
def qO(s:List UInt8)(i:Nat){j:Nat}(h:j<32):(Gf s i)[j]?=some (UInt8.ofNat (if 2*j+1<i then 16*lq s (2*j)+lq s (2*j+1)else if 2*j<i then lq s (2*j)else 0)):=by simp[Gf,h]
def NY(s:List UInt8):Gf s 0=List.replicate 32 0:=by
 apply List.ext_getElem?
 intro j
 rcases Nat.lt_or_ge j 32 with h|h
 ·rw[qO s 0 h,List.getElem?_replicate,if_pos h];simp
 ·rw[List.getElem?_eq_none (by rw[kP];exact h),List.getElem?_eq_none (by simpa using h)]
def RK{c:UInt8}{v:Nat}(h:lC c=some v):v<16:=by
 unfold lC at h
 split at h
 ·cases h;omega
 split at h
 ·cases h;omega
 ·cases h
def Cg(s:List UInt8)(i:Nat):lq s i<16:=by
 unfold lq
 cases h:lC (s.getD i 0)with
 | none=>simp
 | some v=>exact RK h
def O8{n:Nat}(h:n<16):lC (BP n)=some n:=by
 have:∀n:Nat,n<16→lC (BP n)=some n:=by decide
 exact this n h
def Np{c:UInt8}{v:Nat}(h:lC c=some v):BP v=c:=by
 apply UInt8.toNat.inj
 unfold lC at h
 unfold BP
 simp only[UInt8.toNat_ofNat']
 split at h
 ·cases h;rw[if_pos ag];omega
 split at h
 ·cases h;rw[if_neg ag];omega
 ·cases h
def jU(s:List UInt8):Option Dg:=if s.length=64∧∀c∈s,lC c≠none then some ⟨Gf s 64,kP s 64⟩else none
def wP{s:List UInt8}{i:Nat}{c:UInt8}(h:s[i]?=some c):s.getD i 0=c:=by rw[List.getD_eq_getElem?_getD,h];rfl
def tq(d:Dg)(i:Nat):lC (vF d i)=some (if i%2=0 then(d.at (i/2)).toNat/16 else(d.at (i/2)).toNat%16):=by
 have:=(d.at (i/2)).toNat_lt
 exact O8 (by split <;> omega)
def Dg.PG(d:Dg){j:Nat}(h:j<32):d.bs[j]?=some (d.at j):=by
 unfold Dg.at
 rw[List.getD_eq_getElem?_getD,List.getElem?_eq_getElem (by rw[d.len];exact h)];rfl
def G4(d:Dg):jU (g9 d)=some d:=by
  unfold jU
  rw[if_pos ⟨jB d,fun c hc=>by
    obtain⟨i,hi,rfl⟩:=List.mem_map.1 hc
    rw[tq];simp⟩]
  congr 1
  obtain⟨bs,hl⟩:=d
  simp only[Dg.mk.injEq]
  apply List.ext_getElem?
  intro j
  rcases Nat.lt_or_ge j 32 with h|h
  · rw[qO _ _ h,if_pos ag,(⟨bs,hl⟩:Dg).PG h]
    unfold lq
    rw[wP (nH _ (show 2*j<64 by omega)),wP (nH _ (show 2*j+1<64 by omega)),tq,tq]
    simp only[Option.getD_some,Option.some.injEq]
    rw[if_pos ag,if_neg ag,show 2*j/2=j from by omega,show(2*j+1)/2=j from by omega]
    apply UInt8.toNat.inj
    simp only[UInt8.toNat_ofNat']
    have:=((⟨bs,hl⟩:Dg).at j).toNat_lt
    omega
  · rw[List.getElem?_eq_none (by rw[kP];exact h),List.getElem?_eq_none (by rw[hl];exact h)]
def Gz{s:List UInt8}{d:Dg}(h:jU s=some d):s=g9 d:=by
 unfold jU at h
 split at h
 ·rename_i hs
  cases h
  apply List.ext_getElem?
  intro i
  rcases Nat.lt_or_ge i 64 with hi|hi
  ·rw[nH _ hi]
   obtain⟨c,hc⟩:∃c,s[i]?=some c:=⟨s[i],List.getElem?_eq_getElem ag⟩
   rw[hc]
   congr 1
   obtain⟨v,hv⟩:=Option.ne_none_iff_exists'.1 (hs.2 c (List.mem_of_getElem? hc))
   rw[← Np hv]
   unfold vF
   congr 1
   have QG:(Dg.at ⟨Gf s 64,kP s 64⟩ (i/2))=UInt8.ofNat (16*lq s (2*(i/2))+lq s (2*(i/2)+1)):=by
    unfold Dg.at
    rw[wP (qO s 64 (show i/2<32 by omega)),if_pos ag]
   rw[QG]
   have h1:=Cg s (2*(i/2))
   have h2:=Cg s (2*(i/2)+1)
   have h3:lq s i=v:=by unfold lq;rw[wP hc,hv];rfl
   simp only[UInt8.toNat_ofNat']
   split
   ·rename_i he
    rw[show 2*(i/2)=i from by omega]at h1 h2 ⊢
    omega
   ·rename_i he
    rw[show 2*(i/2)+1=i from by omega]at h2 ⊢
    omega
  ·rw[List.getElem?_eq_none ag,List.getElem?_eq_none (by rw[jB];exact hi)]
 ·cases h
def dy(kind:List UInt8)(d:Dg):ByteArray:=strOf (kind++g9 d)
def jG(kind:List UInt8)(name:ByteArray):Option Dg:=if kind.isPrefixOf name.data.toList then jU (name.data.toList.drop kind.length)else none
def sf(l:List UInt8):(strOf l).data.toList=l:=by simp[strOf]
def q9{kind:List UInt8}{name:ByteArray}{d:Dg}:jG kind name=some d↔name=dy kind d:=by
 unfold jG dy
 constructor
 ·intro h
  split at h
  ·rename_i hp
   have h2:=Gz h
   obtain⟨t,ht⟩:=List.isPrefixOf_iff_prefix.1 hp
   rw[← ht,List.drop_left]at h2
   subst h2
   rw[ht,xE]
  ·cases h
 ·rintro rfl
  rw[sf,if_pos (List.isPrefixOf_iff_prefix.2 ⟨_,rfl⟩),List.drop_left,G4]
def yJ(kind:List UInt8)(d:Dg):jG kind (dy kind d)=some d:=q9.2 rfl
def Bf{k:List UInt8}{a b:Dg}(h:dy k a=dy k b):a=b:=by
 have:=yJ k a
 rw[h,yJ]at this
 exact(Option.some.inj this).symm
def yS{j k:List UInt8}{a b:Dg}(hl:j.length=k.length)(h:dy j a=dy k b):j=k:=by
 unfold dy at h
 have:=Aw.1 h
 exact(List.append_inj this hl).1
end Go.SL
namespace Go.Proofs.YtdigdgohdpeebaaGreatDoor
open Go Go.SL
variable{A:Ab}{k s:ByteArray}{H:List HP}{f i:Nat}{w:World}{G:cI}
def ptr(f:Nat):Value := .pointer (some ⟨f,0,none⟩)
attribute [local irreducible] J K aE Ends ae az aQ bP bj
def ll(A:HP)(v:Value)(bs:List UInt8)(hv:Vw A v bs.length (bV bs))(hlen:bs.length≤1000000000) :
  aE Tryz.prog 95 [v] [A] (fun r H=>H=[az 5 1 r bs.length (bV bs),A]):=by
 obtain⟨a,c0,rfl⟩:=hv.shape
 cases a with
 | none =>
  have hb:bs=[]:=by
   obtain⟨a,cap,h1,h2|⟨b,o,h2,_⟩⟩:=hv
   ·simpa[bV]using h2
   ·simp only[Value.slice.injEq]at h1;rw[← h1.1]at h2;cases h2
  subst hb
  refine aE.enter Tryz.func95 ak rfl Tryz.ntmps95 zr zr ?_
  intro G F R hR
  refine go ?_
  have he:c0=c0:=rfl
  refine ai (bO 5 1 none _) ?_
  refine aL hR Tryz.func95 rfl _ zr zr (ao.fin [0,1] 0 zr zr)
 | some a =>
  refine aE.enter Tryz.func95 ak rfl Tryz.ntmps95 zr zr ?_
  intro G F R hR
  refine go ?_
  refine aj zr zr zr zr zr zr zr zr zr bD ?_
  intro b0
  refine go ?_
  refine aI (dR 5 1 b0 0 0 [] [] _ rfl (Nat.le_refl _) (by simp)) ?_
  refine aR (mm:=bs.length) (news:=bV bs) 0 1 zr zr zr zr zr zr zr zr zr zr zr zr hv (by show _=_*1;rw[bt];omega) (cO bs) ag (by show _*1≤_;omega) (fun _=>rfl) bD ?_
  intro v'
  have e1:(0:Nat)+bs.length=bs.length:=by omega
  rw[e1,List.nil_append]
  refine go ?_
  refine aL hR Tryz.func95 rfl _ zr zr (ao.fin [0,1] 0 zr zr)
def wz(A X:HP)(v:Value)(bs:List UInt8)(hv:Vw A v bs.length (bV bs))(hlen:bs.length≤9223372036854775807)(g:FuncId)(cap:List Value)(p:UInt8→Bool)(hf:∀x∈bs,aE Tryz.prog g (u8 x::cap) [X] (fun v H=>v = .bool (p x)∧H=[X])) :
  aE Tryz.prog 215 [v,.func (.func g) #[] cap.toArray] [A,X] (fun r H=>r = .int .i64 (kz p bs)∧H=[A,X]):=by
 obtain⟨a,c0,rfl⟩:=hv.shape
 refine aE.enter Tryz.func215 ak rfl Tryz.ntmps215 zr zr ?_
 intro G F R hR
 refine go ?_
 refine bz (fun i:Nat=>i≤bs.length∧∀y∈bs.take i,p y=false) (fun i=>bs.length-i) (fun i=>[(0,.slice a bs.length c0),(1,.func (.func g) #[] cap.toArray),(7,.int .i64 bs.length),(8,.int .i64 i)]) (fun _=>[A,X]++F) 0 ⟨by simp,by simp⟩ rfl cm (ao.refl _) ?_
 rintro i⟨hi,hb⟩ ih
 refine go ?_
 refine aq zr zr ?_ ?_
 ·intro cW
  refine go ?_
  have gh:i<bs.length:=by omega
  obtain⟨b,o,gQ,fO⟩:=hv.some (by rw[← List.length_pos_iff,bt];omega)
  simp only[Value.slice.injEq]at fO
  obtain⟨rfl,_,rfl⟩:=fO
  refine bI i zr zr zr zr zr zr zr zr gh ?_
  have hx:bs[i]?=some bs[i]:=by simp[gh]
  refine ur (U:=aS) 0 zr zr zr (hv.cell (nC hx)) zr zr ?_
  refine cF [1] zr zr zr zr (hf bs[i] (List.getElem_mem gh)) rfl mO ?_
  rintro _ _⟨rfl,rfl⟩
  refine go ?_
  refine fQ zr zr ?_ ?_
  ·intro hp
   refine go ?_
   refine aL hR Tryz.func215 rfl _ rfl ⟨by rw[nU hx hp hb];rfl,rfl⟩ (ao.fin [1,0] 0 zr zr)
  ·intro hp
   refine go ?_
   refine aM ih (i+1) rfl ⟨ag,uf hb hx hp⟩ ag cm (ao.pick [1,0] rfl)
 ·intro fg
  refine go ?_
  have:i=bs.length:=by omega
  subst this
  refine aL hR Tryz.func215 rfl _ rfl ⟨by rw[qW (fun x hx=>hb x (by simpa using hx))];rfl,rfl⟩ (ao.fin [0,1] 0 zr zr)
def WV(x:UInt8):Bool:=decide (97≤x.toNat∧x.toNat≤122∨48≤x.toNat∧x.toNat≤57∨x.toNat=45∨x.toNat=46)
def Kv(X:HP)(x:UInt8):aE Tryz.prog 193 [u8 x] [X] (fun v H=>v = .bool (!WV x)∧H=[X]):=by
 refine aE.enter Tryz.func193 ak rfl Tryz.ntmps193 zr zr ?_
 intro G F R hR
 have hx:=Zc x
 repeat'(first|(with_reducible intro pH)|refine gO ?_|refine iy zr zr zr zr ?_ ?_|fail)
 all_goals refine aL hR Tryz.func193 rfl _ rfl ⟨congrArg Value.bool (by rw[Bool.eq_iff_iff];simp[WV];omega),rfl⟩ (ao.fin [0] 0 zr zr)
def sQ(A X:HP)(v:Value)(bs:List UInt8)(hv:Vw A v bs.length (bV bs))(hlen:bs.length≤9223372036854775807)(g:FuncId)(cap:List Value)(p:UInt8→Bool)(hf:∀x∈bs,aE Tryz.prog g (u8 x::cap) [X] (fun v H=>v = .bool (p x)∧H=[X])) :
  aE Tryz.prog 194 [v,.func (.func g) #[] cap.toArray] [A,X] (fun r H=>r = .bool (bs.any p)∧H=[A,X]):=by
 refine aE.enter Tryz.func194 ak rfl Tryz.ntmps194 zr zr ?_
 intro G F R hR
 refine go ?_
 refine cF [0,1] zr zr zr zr (wz A X v bs hv hlen g cap p hf) rfl mO ?_
 rintro _ _⟨rfl,rfl⟩
 refine go ?_
 have hb:decide (0≤kz p bs)=bs.any p:=by
  have := @nV _ p bs
  cases h:bs.any p with
  | false=>rw[h]at this;exact decide_eq_false (by have:=this.2 rfl;omega)
  | true =>
   rw[h]at this
   have h2:¬kz p bs<0:=fun h3=>by cases this.1 h3
   exact decide_eq_true ag
 refine aL hR Tryz.func194 rfl _ rfl ⟨congrArg Value.bool hb,rfl⟩ (ao.fin [0,1] 0 zr zr)
def isName(s:ByteArray):Bool:=decide (1≤s.size∧s.size≤80) && s.data.toList.all WV
def K5(h1:1≤s.size)(h2:s.size≤80):isName s = !(s.data.toList.any fun x => !WV x):=by
 simp[isName,h1,h2,List.all_eq_not_any_not]
def Ce(h1:s.size<1):isName s=false:=by simp[isName];omega
def Et(h1:80<s.size):isName s=false:=by simp[isName];omega
def jC(A:HP)(v:Value)(l:List ByteArray)(hv:Vw A v l.length (l.map Value.string))(hlen:l.length≤1000000) :
  aE Tryz.prog 135 [v] [A] (fun r H=>r = .bool (l.all isName)∧H=[A]):=by
 obtain⟨a,c0,rfl⟩:=hv.shape
 refine aE.enter Tryz.func135 ak rfl Tryz.ntmps135 zr zr ?_
 intro G F R hR
 refine ai (ao.qt _) (go ?_)
 refine bz (fun i:Nat=>i≤l.length∧∀y∈l.take i,isName y=true) (fun i=>l.length-i) (fun i=>[(3,.func (.func 193) #[] #[]),(6,.slice a l.length c0),(7,.int .i64 l.length),(8,.int .i64 i)]) (fun _=>emp::([A]++F)) 0 ⟨by simp,by simp⟩ rfl cm (ao.refl _) ?_
 rintro i⟨hi,hb⟩ ih
 refine go ?_
 refine aq zr zr ?_ ?_
 ·intro cW
  refine go ?_
  have gh:i<l.length:=by omega
  obtain⟨b,o,gQ,fO⟩:=hv.some (by rw[← List.length_pos_iff,List.length_map];omega)
  simp only[Value.slice.injEq]at fO
  obtain⟨rfl,_,rfl⟩:=fO
  refine bI i zr zr zr zr zr zr zr zr gh ?_
  obtain⟨s,hs⟩:∃s,l[i]?=some s:=⟨l[i],by simp[gh]⟩
  refine ur (U:=aS) 1 zr zr zr (hv.cell (c := .string s) (by simp[hs])) zr zr ?_
  have e9:s∈l:=List.mem_of_getElem? hs
  repeat'(first|(with_reducible intro pH)|refine gO ?_|refine iy zr zr zr zr ?_ ?_|fail)
  ·have hn:l.all isName=false:=by
    rw[← Bool.not_eq_true,List.all_eq_true];intro h
    have h1:=h s e9;rw[Ce ag]at h1;cases h1
   refine aL hR Tryz.func135 rfl _ rfl ⟨congrArg Value.bool hn.symm,rfl⟩ (ao.fin [1] 1 zr zr)
  ·have hn:l.all isName=false:=by
    rw[← Bool.not_eq_true,List.all_eq_true];intro h
    have h1:=h s e9;rw[Et ag]at h1;cases h1
   refine aL hR Tryz.func135 rfl _ rfl ⟨congrArg Value.bool hn.symm,rfl⟩ (ao.fin [1] 1 zr zr)
  ·have lG:=K5 (s:=s) ag ag
   refine Mn (U:=aS) zr zr zr zr zr zr zr zr (fun _ _ _ _=>trivial) ?_
   intro bb cc
   refine go ?_
   refine cF [0,1] zr zr zr zr (sQ (bj bb s _ cc) emp _ s.data.toList (by simpa using GK bb s _ cc cc) (by simp;omega) _ [] _ (fun x _=>Kv emp x)) rfl mO ?_
   rintro _ _⟨rfl,rfl⟩
   refine go ?_
   refine fQ zr zr ?_ ?_
   ·intro ht
    refine go ?_
    have hn:l.all isName=false:=by
     rw[← Bool.not_eq_true,List.all_eq_true];intro h
     have h1:=h s e9;rw[lG,ht]at h1;cases h1
    refine aL hR Tryz.func135 rfl _ rfl ⟨congrArg Value.bool hn.symm,rfl⟩ (ao.fin [2] 2 zr zr)
   ·intro hf
    refine go ?_
    refine aM ih (i+1) rfl ⟨ag,uf hb hs (by rw[lG,hf];rfl)⟩ ag cm (ao.to [1,2] 1 zr zr zr)
 ·intro fg
  refine go ?_
  have:i=l.length:=by omega
  subst this
  refine aL hR Tryz.func135 rfl _ rfl ⟨congrArg Value.bool (by rw[eq_comm,List.all_eq_true];intro x hx;exact hb x (by simpa using hx)),rfl⟩ (ao.fin [1] 1 rfl rfl)
def uJ(A:HP)(v1 v2:Value)(old b:List UInt8)(at_:Nat)(h1:Vw A v1 old.length (bV old))(h2:Vw A v2 b.length (bV b))(hb:old.length+at_+b.length≤1000000000) :
  aE Tryz.prog 47 [v1,.int .i64 at_,v2] [A] (fun r H=>∃bl cap,r = .slice (some ⟨bl,0,none⟩) (bN old at_ b).length cap∧(bN old at_ b).length≤cap∧H=[ae bl (cl (bV (bN old at_ b)) 5),A]):=by
 obtain⟨a1,c1,rfl⟩:=h1.shape
 obtain⟨a2,c2,rfl⟩:=h2.shape
 refine aE.enter Tryz.func47 ak rfl Tryz.ntmps47 zr zr ?_
 intro G F R hR
 refine go ?_
 have hN:(max old.length (at_+b.length):Nat)=max old.length (at_+b.length):=rfl
 generalize hM:max old.length (at_+b.length)=M at *
 refine aB 14 (.int .i64 (M:Int)) rfl (congrArg (Value.int .i64) ag) ?_
 refine ij (p:=M) (q:=M) zr zr zr zr zr zr zr zr zr (Nat.le_refl _) ag (by show 1*M≤_;omega) bD ?_
 intro bl
 refine go ?_
 refine Qf (U:=aS) (src:=bV old) (mm:=old.length) (l':=bV (old++List.replicate (M-old.length) 0)) 0 1 zr zr zr zr zr zr zr zr h1 (by show _=_*1;rw[bt];omega) (cO old) (by show 0+_*1≤_;simp;omega) ?_ rfl gB ?_
 ·show bV (old++List.replicate (M-old.length) 0)=List.take 0 (List.replicate M (Value.int .u8 0))++List.take (min old.length M*1) (bV old)++List.drop (0+min old.length M*1) (List.replicate M (Value.int .u8 0))
  have e:min old.length M*1=old.length:=by omega
  rw[e,List.take_of_length_le (l:=bV old) (by rw[bt];omega)]
  simp[bV,u8]
 refine go ?_
 refine lX zr zr zr zr zr zr zr ag ag (.inl rfl) ?_
 intro o' OV YK
 have hA:at_≠M→o'=at_:=fun h=>by have:=OV (by simpa using h);rw[this];show 0+(at_:Int).toNat*1=at_;simp
 have hB:at_=M→o'=0:=fun h=>YK (by simpa using h)
 clear OV YK
 have Le:(min b.length ((M:Int).toNat-(at_:Int).toNat))*1=b.length:=by simp;omega
 refine go ?_
 refine Qf (U:=aS) (src:=bV b) (mm:=b.length) (l':=bV (bN old at_ b)) 0 1 zr zr zr zr zr zr zr zr h2 (by show _=_*1;rw[bt];omega) (cO b) ?_ ?_ rfl gB ?_
 ·show o'+(min b.length ((M:Int).toNat-(at_:Int).toNat))*1≤_
  rw[Le];simp only[bt,List.length_append,List.length_replicate]
  by_cases h:at_=M
  ·have:=hB h;omega
  ·have:=hA h;omega
 ·show bV (bN old at_ b)=List.take o' _++List.take (min b.length ((M:Int).toNat-(at_:Int).toNat)*1) (bV b)++List.drop (o'+min b.length ((M:Int).toNat-(at_:Int).toNat)*1) _
  rw[Le,List.take_of_length_le (l:=bV b) (by rw[bt];omega)]
  have Xb:at_+b.length-old.length=M-old.length:=by omega
  unfold bN
  rw[Xb]
  by_cases h:at_=M
  ·have h3:=hB h
   have h4:b=[]:=List.eq_nil_of_length_eq_zero ag
   subst h4;subst h3
   simp[bV,h]
  ·rw[hA h]
   simp[bV]
 ·have hl:(bN old at_ b).length=M:=by unfold bN;simp;omega
  rw[← hl]
  refine go ?_
  refine aL hR Tryz.func47 rfl _ rfl ⟨bl,_,rfl,Nat.le_refl _,rfl⟩ (ao.fin [0,1] 0 zr zr)
attribute [local irreducible] aT aU
def eR(l:List (ByteArray × Nat)):List (ByteArray × Value):=l.map fun x=>(x.1,ptr x.2)
structure Dk where
 room:Nat
 bm:Nat
 kj:Value
 oE:Value
 nL:Value
 off:Bool
 maps:List (Nat × List (ByteArray × Value))
 eg:fC
 files:List (Nat × Value × Value)
 gC:List Nat
 wl:List (Nat × Nat × Value)
def kZ(x:Nat × List (ByteArray × Value)):HP:=aQ Value.string x.1 x.2
def ff(x:Nat × Value × Value):HP:=ae x.1 (cl [x.2.1,x.2.2] 99)
def fh(l:List (Nat × Nat × Value)):List Value:=l.flatMap fun x=>[ptr x.1,.int .i64 x.2.1,x.2.2]
def Tv(bd:Nat)(D:Dk):List HP :=
  [ae bd (cl [.int .i64 D.room,.map (some D.bm),D.kj,D.oE,D.nL,.bool D.off] 60),aT kZ D.maps,aU 5 D.eg,aT ff D.files,
   az 56 1 D.kj D.gC.length (D.gC.map fun b => .map (some b)),az 95 3 D.oE D.wl.length (fh D.wl)]
def hJ(bd:Nat)(D:Dk):HP:=Sep (Tv bd D)
def iZ(bd room bm:Nat)(kj oE nL:Value)(off:Bool)(maps:List (Nat × List (ByteArray × Value)))(eg:fC)(files:List (Nat × Value × Value))(gC:List Nat)(wl:List (Nat × Nat × Value))(H:List HP) :
  ao (hJ bd ⟨room,bm,kj,oE,nL,off,maps,eg,files,gC,wl⟩::H)
   (ae bd (cl [.int .i64 room,.map (some bm),kj,oE,nL,.bool off] 60)::aT kZ maps::aU 5 eg::aT ff files::az 56 1 kj gC.length (gC.map fun b => .map (some b))::az 95 3 oE wl.length (fh wl)::H):=ao.cJ _ _
def ep(bd room bm:Nat)(kj oE nL:Value)(off:Bool)(maps:List (Nat × List (ByteArray × Value)))(eg:fC)(files:List (Nat × Value × Value))(gC:List Nat)(wl:List (Nat × Nat × Value))(H:List HP) :
  ao (ae bd (cl [.int .i64 room,.map (some bm),kj,oE,nL,.bool off] 60)::aT kZ maps::aU 5 eg::aT ff files::az 56 1 kj gC.length (gC.map fun b => .map (some b))::az 95 3 oE wl.length (fh wl)::H)
   (hJ bd ⟨room,bm,kj,oE,nL,off,maps,eg,files,gC,wl⟩::H):=ao.bS (Tv bd ⟨room,bm,kj,oE,nL,off,maps,eg,files,gC,wl⟩) H
structure Rel(D:Dk)(A:Ab):Prop where
 room:D.room=A.room
 off:D.off=A.off
 names:(D.bm,eR A.names)∈D.maps
 aw:e7 (fun b es=>(b,eR es)∈D.maps) D.gC A.aw
 fs:e7 (fun x y=>x.1=y.1∧kM D.eg x.2.1 y.2.1∧kM D.eg x.2.2 y.2.2) D.files A.fs
 writes:e7 (fun x y=>x.1=y.1∧x.2.1=y.2.1∧kM D.eg x.2.2 y.2.2) D.wl A.writes
 dS:kM D.eg D.nL A.dS
 ids:(A.fs.map (·.1)).Nodup
 known:∀st∈A.names::A.aw,∀x∈st,x.2∈A.fs.map (·.1)
 gX:∀x∈A.writes,x.1∈A.fs.map (·.1)
 nodup:∀st∈A.names::A.aw,(st.map (·.1)).Nodup
 gD:∀x∈A.fs,x.2.1.length≤1048576∧x.2.2.length≤1048576
 il:∀x∈A.writes,x.2.1+x.2.2.length≤1048576
 fG:∀st∈A.names::A.aw,st.length≤200
 im:A.room≤1073741824
 kq:A.dS.length≤1000000000
 full:A.aw≠[]
def Rel.QU{D:Dk}(h:Rel D A){v:Value}{p:List UInt8}(o:Bool)(hp:kM D.eg v p)(hl:p.length≤1000000000):Rel { D with nL:=v,off:=o } { A with dS:=p,off:=o } :=
 ⟨h.room,rfl,h.names,h.aw,h.fs,h.writes,hp,h.ids,h.known,h.gX,h.nodup,h.gD,h.il,h.fG,h.im,hl,h.full⟩
def Rel.Nq{D:Dk}(h:Rel D A){v:Value}{p:List UInt8}(hp:kM D.eg v p)(hl:p.length≤1000000000):Rel { D with nL:=v } { A with dS:=p } :=
 ⟨h.room,h.off,h.names,h.aw,h.fs,h.writes,hp,h.ids,h.known,h.gX,h.nodup,h.gD,h.il,h.fG,h.im,hl,h.full⟩
def yh(bd:Nat)(D:Dk)(A:Ab)(hR:Rel D A)(may:Bool) :
  aE Tryz.prog 116 [ptr bd,.bool may] [hJ bd D] (fun v H=>∃D',Rel D' (A.meet may).2∧H=[hJ bd D']∧v = .int .i64 (A.meet may).1):=by
 obtain⟨room,bm,kj,oE,nL,off,maps,eg,files,gC,wl⟩:=D
 obtain⟨a,cap,qX,jx⟩:=hR.dS.shape
 simp only at qX
 subst qX
 have ji:=hR.off
 simp only at ji
 refine aE.au Tryz.func116 Tryz.ntmps116 fun G F R hE=>?_
 refine ai (iZ _ _ _ _ _ _ _ _ _ _ _ _ _) ?_
 cases may with
 | false =>
  refine go ?_
  refine aL hE Tryz.func116 rfl _ rfl ⟨_,hR,rfl,rfl⟩ ((ao.pick [0,1,2,3,4,5] rfl).trans (ep _ _ _ _ _ _ _ _ _ _ _ _ _))
 | true =>
  cases off with
  | true =>
   have hm:A.meet true=(7,A):=by simp[Ab.meet,← ji]
   rw[hm]at hE
   refine go ?_
   refine aL hE Tryz.func116 rfl _ rfl ⟨_,hR,rfl,rfl⟩ ((ao.pick [0,1,2,3,4,5] rfl).trans (ep _ _ _ _ _ _ _ _ _ _ _ _ _))
  | false =>
   refine go ?_
   refine fQ zr zr ?_ ?_
   ·intro h0
    have nY:A.dS=[]:=List.eq_nil_of_length_eq_zero (by have:=of_decide_eq_true h0;omega)
    have hm:A.meet true=(0,A):=by simp[Ab.meet,← ji,nY]
    rw[hm]at hE
    refine go ?_
    refine aL hE Tryz.func116 rfl _ rfl ⟨_,hR,rfl,rfl⟩ ((ao.pick [0,1,2,3,4,5] rfl).trans (ep _ _ _ _ _ _ _ _ _ _ _ _ _))
   ·intro h0
    obtain⟨x,p,Qv⟩:∃x p,A.dS=x::p:=by
     cases h:A.dS with
     | nil=>rw[h]at h0;simp at h0
     | cons x p=>exact⟨x,p,rfl⟩
    have hm:A.meet true=if x=1 then(6,{ A with dS:=p })else if x=2 then(7,{ A with dS:=p,off:=true })else(0,{ A with dS:=p }):=by simp[Ab.meet,← ji,Qv]
    have XT:kM eg (.slice a A.dS.length cap) (x::p):=by have:=hR.dS;rw[Qv]at this;rw[Qv];exact this
    have hlen:A.dS.length=p.length+1:=by rw[Qv];rfl
    have u6:=hR.kq
    obtain⟨b,o,gQ,fO⟩:=(XT.view 5).some (by simp[bV])
    simp only[Value.slice.injEq]at fO
    obtain⟨rfl,_,rfl⟩:=fO
    refine go ?_
    refine bI 0 zr zr zr zr zr zr zr zr ag ?_
    refine ur (U:=aS) 2 zr zr zr (Vw.cell (cap:=cap) (n:=(x::p).length) (cs:=bV (x::p)) (by rw[← Qv];exact hR.dS.view _) (c:=u8 x) (by simp[bV])) zr zr ?_
    refine go ?_
    refine lX zr zr zr zr zr zr zr ag ag (.inl rfl) ?_
    intro o' OV _
    have hn:(A.dS.length:Int).toNat-(1:Int).toNat=p.length:=by omega
    rw[hn]
    have hp:kM eg (.slice (some ⟨b,o',none⟩) p.length (cap-(1:Int).toNat)) p:=XT.tail o' _ (fun bZ=>OV (by
     have:0<p.length:=List.length_pos_iff.2 bZ
     omega)) ag
    have hoA:A.off=false:=ji.symm
    have hR1:=hR.Nq hp ag
    have Pj:=hR.QU true hp ag
    clear XT hp OV
    refine go ?_
    refine aq zr zr ?_ ?_
    ·intro hx
     have MN:x=1:=M9 hx
     rw[hm,if_pos MN]at hE
     refine go ?_
     refine aL hE Tryz.func116 rfl _ rfl ⟨_,hR1,rfl,rfl⟩ ((ao.pick [0,1,2,3,4,5] rfl).trans (ep _ _ _ _ _ _ _ _ _ _ _ _ _))
    ·intro hx
     have MN:x≠1:=fun h=>hx (by rw[h];rfl)
     refine go ?_
     refine aq zr zr ?_ ?_
     ·intro hy
      have ru:x=2:=M9 hy
      rw[hm,if_neg MN,if_pos ru]at hE
      refine go ?_
      refine aL hE Tryz.func116 rfl _ rfl ⟨_,Pj,rfl,rfl⟩ ((ao.pick [0,1,2,3,4,5] rfl).trans (ep _ _ _ _ _ _ _ _ _ _ _ _ _))
     ·intro hy
      have ru:x≠2:=fun h=>hy (by rw[h];rfl)
      rw[hm,if_neg MN,if_neg ru]at hE
      refine go ?_
      refine aL hE Tryz.func116 rfl _ rfl ⟨_,hR1,rfl,rfl⟩ ((ao.pick [0,1,2,3,4,5] rfl).trans (ep _ _ _ _ _ _ _ _ _ _ _ _ _))
def ph(l:List (ByteArray × Nat))(name:ByteArray):ez (eR l) name=(Ab.cM l name).map ptr:=by
 unfold ez Ab.cM eR
 induction l with
 | nil=>rfl
 | cons x l ih =>
  simp only[List.map_cons,List.find?_cons]
  by_cases h:x.1=name
  ·simp[h]
  ·simp only[h,decide_false];exact ih
def jW{maps:List (Nat × List (ByteArray × Value))}{b:Nat}{es:List (ByteArray × Value)}(hs:Sat G w H)(hi:cE H i=some (aT kZ maps))(hm:(b,es)∈maps) :
  ∃o,p7 Value.string o es∧w.heap[b]?=some o:=by
 obtain⟨h,hh,hA⟩:=hs.lj hi
 obtain⟨h',s,hb⟩:=Ay hm hA
 unfold kZ aQ at hb
 obtain⟨o,ho,hp⟩:=hb
 unfold ae at hp
 exact⟨o,ho,hh b o (s b o (by rw[hp b];simp))⟩
def wj:mI Tryz.prog 9 Value.string:=Ov Tryz.underlying9
def WU:Option Nat→Value
 | none => .pointer none
 | some f=>ptr f
def jY(bd:Nat)(D:Dk)(A:Ab)(hR:Rel D A)(name:ByteArray)(may:Bool) :
  aE Tryz.prog 152 [ptr bd,.string name,.bool may] [hJ bd D] (fun v H=>∃D',Rel D' (A.find name may).2.2∧H=[hJ bd D']∧v = .tuple #[WU (A.find name may).2.1,.int .i64 (A.find name may).1]):=by
 refine aE.au Tryz.func152 Tryz.ntmps152 fun G F R hE=>?_
 refine go ?_
 refine cF [0] zr zr zr zr (yh bd D A hR may) rfl mO ?_
 rintro _ _⟨D',gq,rfl,rfl⟩
 refine go ?_
 refine fQ zr zr ?_ ?_
 ·intro h0
  have nY:¬(A.meet may).1=0:=by have:=of_decide_eq_true h0;omega
  have hf:A.find name may=((A.meet may).1,none,(A.meet may).2):=by simp[Ab.find,nY]
  rw[hf]at hE
  refine go ?_
  refine aL hE Tryz.func152 rfl _ rfl ⟨D',gq,rfl,rfl⟩ (ao.pick [0] rfl)
 ·intro h0
  have nY:(A.meet may).1=0:=by have:=of_decide_eq_false h0;omega
  obtain⟨room,bm,kj,oE,nL,off,maps,eg,files,gC,wl⟩:=D'
  refine ai (iZ _ _ _ _ _ _ _ _ _ _ _ _ _) (go ?_)
  refine qD (U:=aS) rfl wj zr zr zr zr zr zr zr (fun w hw=>jW (i:=1) hw rfl gq.names) ?_
  rw[ph]
  cases hl:Ab.cM (A.meet may).2.names name with
  | none =>
   have hf:A.find name may=(4,none,(A.meet may).2):=by simp[Ab.find,nY,Ab.look,hl]
   rw[hf]at hE
   refine go ?_
   refine aL hE Tryz.func152 rfl _ rfl ⟨_,gq,rfl,rfl⟩ ((ao.pick [0,1,2,3,4,5] rfl).trans (ep _ _ _ _ _ _ _ _ _ _ _ _ _))
  | some fl =>
   have hf:A.find name may=(0,some fl,(A.meet may).2):=by simp[Ab.find,nY,Ab.look,hl]
   rw[hf]at hE
   refine go ?_
   refine aL hE Tryz.func152 rfl _ rfl ⟨_,gq,rfl,rfl⟩ ((ao.pick [0,1,2,3,4,5] rfl).trans (ep _ _ _ _ _ _ _ _ _ _ _ _ _))
def sG{α:Type}{l:List (Nat × α)}(hn:(l.map (·.1)).Nodup){x:α}(hi:l[i]?=some (f,x)):(l.find? fun x=>decide (x.1=f))=some (f,x):=by
 induction l generalizing i with
 | nil=>simp at hi
 | cons y l ih =>
  simp only[List.map_cons,List.nodup_cons]at hn
  cases i with
  | zero=>simp at hi;subst hi;simp
  | succ i =>
   simp at hi
   have bZ:y.1≠f:=fun e=>hn.1 (List.mem_map.2 ⟨_,List.mem_of_getElem? hi,e.symm⟩)
   simp only[List.find?_cons,bZ,decide_false]
   exact ih hn.2 hi
def Rel.file{D:Dk}(h:Rel D A)(hf:f∈A.fs.map (·.1)):∃(i:Nat) (v1 v2:Value),D.files[i]?=some (f,v1,v2)∧A.fs[i]?=some (f,A.now f,A.sure f)∧kM D.eg v1 (A.now f)∧kM D.eg v2 (A.sure f):=by
 obtain⟨⟨f',n,s⟩,hm,rfl⟩:=List.mem_map.1 hf
 obtain⟨i,hi⟩:=List.getElem?_of_mem hm
 obtain⟨⟨f2,v1,v2⟩,hx,h1,h2,h3⟩:=h.fs.right hi
 simp only at h1 h2 h3
 subst h1
 have ml:A.file f2=(n,s):=by unfold Ab.file;rw[sG h.ids hi];rfl
 refine⟨i,v1,v2,hx,?_,?_,?_⟩
 ·rw[hi];simp[Ab.now,Ab.sure,ml]
 ·simpa[Ab.now,ml]using h2
 ·simpa[Ab.sure,ml]using h3
def Rel.small{D:Dk}(h:Rel D A)(f:Nat):(A.now f).length≤1048576∧(A.sure f).length≤1048576:=by
 unfold Ab.now Ab.sure Ab.file
 cases hf:A.fs.find? fun x=>decide (x.1=f)with
 | none=>simp
 | some x=>simpa using h.gD x (List.mem_of_find?_eq_some hf)
def yR{files:List (Nat × Value × Value)}{v1 v2:Value}{j:Nat}(hs:Sat G w H)(hi:cE H i=some (aT ff files))(hm:files[j]?=some (f,v1,v2)) :
  w.heap[f]?=some (cl [v1,v2] 99):=by
 obtain⟨h,hh,hA⟩:=hs.lj hi
 obtain⟨h',s,hb⟩:=Ay (List.mem_of_getElem? hm) hA
 unfold ff ae at hb
 exact hh f _ (s f _ (by rw[hb f];simp))
def tU{files:List (Nat × Value × Value)}{v1 v2:Value}{j:Nat}(hs:Sat G w H)(hi:cE H i=some (aT ff files))(hm:files[j]?=some (f,v1,v2)) :
  w.cell? ⟨f,0,none⟩=some v1:=by rw[dG (yR hs hi hm)];rfl
def oT{l:List (ByteArray × Nat)}(hn:(l.map (·.1)).Nodup)(h:(k,f)∈l):Ab.cM l k=some f:=by
  obtain⟨i,hi⟩:=List.getElem?_of_mem h
  have:ez (l.map fun x=>(x.1,Value.int .i64 x.2)) k=some (.int .i64 f):=Bn (i:=i) (by simp[hi]) (fun j hj he=>by
    rw[List.map_map]at he
    have h1:(l.map (·.1))[j]?=(l.map (·.1))[i]? := by
      have e:(List.map ((fun x=>x.1) ∘ fun x=>(x.1,Value.int IntKind.i64 (x.2:Nat))) l)=l.map (·.1):=rfl
      rw[e]at he
      rw[he];simp[hi]
    have:=(List.getElem?_inj (by
      rcases Nat.lt_or_ge j (l.map (·.1)).length with h|h
      · exact h
      · rw[List.getElem?_eq_none h]at h1;simp[hi]at h1) hn).1 h1
    omega)
  unfold ez at this
  unfold Ab.cM
  rw[List.find?_map]at this
  simp only[Option.map_map]at this
  cases hx:l.find? fun x=>decide (x.1=k)with
  | none => have e : (l.find? ((fun x => decide (x.1 = k)) ∘ fun x => (x.1, Value.int IntKind.i64 (x.2 : Nat)))) = none := hx
            rw[e]at this;cases this
  | some y => 
    have e:(l.find? ((fun x=>decide (x.1=k)) ∘ fun x=>(x.1,Value.int IntKind.i64 (x.2:Nat))))=some y:=hx
    rw[e]at this
    have h2:((y.2:Nat):Int)=f:=by simpa using this
    rw[Option.map_some,show y.2=f by omega]
def p9{l:List (ByteArray × Nat)}(h:Ab.cM l k=some f):(k,f)∈l:=by
 unfold Ab.cM at h
 cases hx:l.find? fun x=>decide (x.1=k)with
 | none=>rw[hx]at h;cases h
 | some y =>
  rw[hx]at h
  have h1:=List.find?_some hx
  simp only[decide_eq_true_eq]at h1
  simp only[Option.map_some,Option.some.injEq]at h
  have:=List.mem_of_find?_eq_some hx
  rwa[← h1,← h]
def lenOf(A:Ab)(k:ByteArray):Nat:=(A.look k).elim 0 fun f=>(A.now f).length
def sumOf(A:Ab)(l:List ByteArray):Nat:=(l.map (lenOf A)).sum
def Dv(h:∀f,(A.now f).length≤1048576)(l:List ByteArray):sumOf A l≤l.length*1048576:=by
 induction l with
 | nil=>simp[sumOf]
 | cons k l ih =>
  have h1:lenOf A k≤1048576:=by unfold lenOf;cases A.look k with|none=>simp|some f=>exact h f
  simp only[sumOf,List.map_cons,List.sum_cons,List.length_cons]at ih ⊢
  omega
def G9{α:Type}[DecidableEq α]{l r:List α}(h1:l.Nodup)(h2:r.Nodup)(h:∀x,x∈l↔x∈r):l.Perm r:=(List.perm_ext_iff_of_nodup h1 h2).2 h
def u0{α:Type}[DecidableEq α]{l r:List α}(h1:l.Nodup)(h:∀x∈l,x∈r):l.length≤r.length:=by
 induction l generalizing r with
 | nil=>simp
 | cons x l ih =>
  simp only[List.nodup_cons]at h1
  have:=ih (r:=r.erase x) h1.2 (fun y hy=>(List.mem_erase_of_ne (by rintro rfl;exact h1.1 hy)).2 (h y (by simp[hy])))
  rw[List.length_erase_of_mem (h x (by simp))]at this
  have h3:0<r.length:=List.length_pos_of_mem (h x (by simp))
  simp only[List.length_cons]
  omega
def xD(hn:(A.names.map (·.1)).Nodup):sumOf A (A.names.map (·.1))=A.used:=by
 unfold sumOf Ab.used
 rw[List.map_map]
 congr 1
 apply List.map_congr_left
 rintro⟨k,f⟩ hx
 have:A.look k=some f:=oT hn hx
 simp[lenOf,this]
def PN(bd:Nat)(D:Dk)(A:Ab)(hR:Rel D A) :
  aE Tryz.prog 153 [ptr bd] [hJ bd D] (fun v H=>H=[hJ bd D]∧v = .int .i64 A.used):=by
 obtain⟨room,bm,kj,oE,nL,off,maps,eg,files,gC,wl⟩:=D
 refine aE.au Tryz.func153 Tryz.ntmps153 fun G F R hE=>?_
 refine ai (iZ _ _ _ _ _ _ _ _ _ _ _ _ _) (go ?_)
 obtain⟨j,hj⟩:=List.getElem?_of_mem hR.names
 simp only at hj
 refine aI (ao.pick [1] rfl) ?_
 refine aI (ie kZ hj _) ?_
 refine wZ (kv:=Value.string) (es:=eR A.names) (U:=aS) 0 zr zr zr zr zr (fun _=>rfl) bD ?_
 intro it
 refine go ?_
 have kf:=hR.nodup _ (List.mem_cons_self ..)
 have A0:(eR A.names).map (·.1)=A.names.map (·.1):=by simp[eR,Function.comp_def]
 refine bz (fun dn:List ByteArray=>dn.Nodup∧∀x∈dn,x∈A.names.map (·.1)) (fun dn=>A.names.length-dn.length)
  (fun dn=>[(3,.int .i64 (sumOf A dn)),(10,.pointer (some ⟨it,0,none⟩))])
  (fun dn=>bP Value.string bm it (eR A.names) dn::aT kZ (maps.eraseIdx j)::ae bd (cl [.int .i64 room,.map (some bm),kj,oE,nL,.bool off] 60)::aU 5 eg::aT ff files::az 56 1 kj gC.length (gC.map fun b => .map (some b))::az 95 3 oE wl.length (fh wl)::F)
  [] ⟨List.nodup_nil,by simp⟩ rfl cm (ao.refl _) ?_
 rintro dn⟨yG,ef⟩ ih
 have hlen:=u0 yG ef
 have hb:=Dv (fun f=>(hR.small f).1) dn
 have hN:=hR.fG _ (List.mem_cons_self ..)
 rw[List.length_map]at hlen
 refine go ?_
 refine CZ (kv:=Value.string) (es:=eR A.names) 0 rfl wj.inj zr zr (fun _=>rfl) gB bD ?_ ?_
 ·intro gp
  refine go ?_
  have hp:sumOf A dn=A.used:=by
   rw[← xD kf]
   refine List.Perm.sum_nat ((G9 yG kf fun x=>⟨ef x,fun hx=>?_⟩).map _)
   rw[← A0]at hx
   obtain⟨y,hy,rfl⟩:=List.mem_map.1 hx
   exact gp y hy
  refine ai ((ao.head (B:=[kZ (bm,eR A.names)]) (fun h hs=>by obtain⟨h',s,hm⟩:=qQ h hs;exact⟨h',s,gk hm⟩)).trans (pN kZ hj _)) ?_
  rw[hp]
  refine aL hE Tryz.func153 rfl _ rfl ⟨rfl,rfl⟩ ((ao.pick [1,0] rfl).trans ((ao.pick [0,1,2,3,4,5] rfl).trans (ep _ _ _ _ _ _ _ _ _ _ _ _ _)))
 ·intro key v e9 wo
  obtain⟨⟨k',f⟩,hx,OE⟩:=List.mem_map.1 e9
  simp only[Prod.mk.injEq]at OE
  obtain⟨rfl,rfl⟩:=OE
  refine go ?_
  refine xh (kv:=Value.string) (es:=eR A.names) 0 rfl wj.inj zr zr e9 (go ?_)
  obtain⟨i,v1,v2,hi,mS,lz,ry⟩:=hR.file (hR.known _ (List.mem_cons_self ..) _ hx)
  obtain⟨a,cap,rfl,jx⟩:=lz.shape
  refine xg (U:=aS) zr zr (fun w hw=>tU (i:=4) hw rfl hi) zr zr ?_
  have oB:A.look k'=some f:=oT kf hx
  have hl:lenOf A k'=(A.now f).length:=by simp[lenOf,oB]
  have u6:=(hR.small f).1
  have RB:k'∈A.names.map (·.1):=List.mem_map.2 ⟨_,hx,rfl⟩
  have O':(k'::dn).Nodup:=List.nodup_cons.2 ⟨wo,yG⟩
  have sC:∀x∈k'::dn,x∈A.names.map (·.1):=fun x hx=>by
   rcases List.mem_cons.1 hx with rfl|h
   ·exact RB
   ·exact ef x h
  have yy:=u0 O' sC
  rw[List.length_map,List.length_cons]at yy
  refine go ?_
  refine bu 3 (.int .i64 (sumOf A (k'::dn))) rfl (congrArg (Value.int .i64) (by simp only[sumOf,List.map_cons,List.sum_cons,hl];omega)) ?_
  refine aM ih (k'::dn) rfl ⟨O',sC⟩ (by show _-(_+1)<_;omega) cm (ao.refl _)
def zR(b:Nat)(es:List (ByteArray × Value)) :
  aE Tryz.prog 195 [.map (some b)] [aQ Value.string b es] (fun v H=>∃b',v = .map (some b')∧H=[aQ Value.string b' es,aQ Value.string b es]):=by
 refine aE.enter Tryz.func195 ak rfl Tryz.ntmps195 zr zr ?_
 intro G F R hR
 refine go ?_
 refine Mq (U:=aS) zr zr zr zr ?_
 refine FP (kv:=Value.string) (es:=es) 0 rfl Tryz.func216 ak ak ak ak zr zr bD ?_
 intro b'
 refine Qg (U:=aS) zr zr zr zr (go ?_)
 refine aL hR Tryz.func195 rfl _ rfl ⟨b',rfl,rfl⟩ (ao.fin [0,1] 0 zr zr)
def mA{α:Type}(bd:Nat)(D:Dk)(nm:List (ByteArray × Nat))(hm:(D.bm,eR nm)∈D.maps)(g:FuncId)(cap:Array Value)(E:HP)(nm':α→List (ByteArray × Nat))(E':α→HP)(q:α→Prop)(hc:∀b',aE Tryz.prog g (.map (some b')::cap.toList) [aQ Value.string b' (eR nm),E] (fun _ H=>∃x,q x∧H=[aQ Value.string b' (eR (nm' x)),E' x]))(hlen:D.gC.length≤1000000000) :
  aE Tryz.prog 136 [ptr bd,.func (.func g) #[] cap] [hJ bd D,E]
   (fun _ H=>∃x b' v,q x∧H=[hJ bd { D with bm:=b',maps:=(b',eR (nm' x))::D.maps,kj:=v,gC:=D.gC++[b'] },E' x]):=by
 obtain⟨room,bm,kj,oE,nL,off,maps,eg,files,gC,wl⟩:=D
 simp only at hm hlen ⊢
 refine aE.au Tryz.func136 Tryz.ntmps136 fun G F R hE=>?_
 refine ai (iZ _ _ _ _ _ _ _ _ _ _ _ _ _) (go ?_)
 obtain⟨j,hj⟩:=List.getElem?_of_mem hm
 refine aI (ao.pick [1] rfl) ?_
 refine aI (ie kZ hj _) ?_
 refine cF [0] zr zr zr zr (zR bm (eR nm)) rfl mO ?_
 rintro _ _⟨b',rfl,rfl⟩
 refine aI (ao.pick [1,2] rfl) ?_
 refine aI (pN kZ hj _) (go ?_)
 refine cF [1,7] zr zr zr zr (hc b') rfl mO ?_
 rintro _ _⟨x,hq,rfl⟩
 refine aI (ao.pick [0,2] rfl) ?_
 refine aI (qJ kZ (b',eR (nm' x)) maps _) (go ?_)
 refine aH (fun w=>Sat G w ([ae bd (cl [.int .i64 room,.map (some b'),kj,oE,nL,.bool off] 60)])) (df 0 9 (.act 9 (.act 10 (.st 11 (.st 12 (.act 13 .nil)))))) rfl ak ak ak (fun w hw=>hw.cN (ao.bE ([2]) rfl)) ?_
 refine go ?_
 refine aj zr zr zr zr zr zr zr zr zr (fun _ w hw=>hw.cN (ao.bE ([3]) rfl)) ?_
 intro b0
 refine aR (mm:=1) (news:=[.map (some b')]) 6 0 zr zr zr zr zr zr zr zr zr zr zr zr (Vw.ae rfl) rfl (by simp[Value.oneCell']) ag (by show _*8≤_;omega) (fun _=>rfl) (fun _ w hw=>hw.cN (ao.bE ([3]) rfl)) ?_
 intro v'
 have e1:(gC.map fun b=>Value.map (some b))++[.map (some b')]=(gC++[b']).map fun b=>Value.map (some b):=by simp
 have e2:gC.length+1=(gC++[b']).length:=by simp
 rw[e1,e2]
 refine aN 6 rfl ?_
 rintro av cv rfl
 refine go ?_
 refine ai (ao.pick [3,1,4,5,6,7,2] rfl) ?_
 refine ai (ep bd room b' _ oE nL off _ eg files (gC++[b']) wl _) ?_
 refine bU hE Tryz.func136 rfl _ rfl ⟨x,b',_,hq,rfl⟩ (ao.fin [0,1] 1 zr zr)
def Rel.new(room bm Sd:Nat)(v:Value)(h:room≤1073741824):Rel ⟨room,bm,v,.slice none 0 0,.slice none 0 0,false,[(Sd,[]),(bm,[])],[],[],[Sd],[]⟩ (Ab.new room) where
 room:=rfl
 off:=rfl
 names:=by simp[Ab.new,eR]
 aw:=e7.one (by simp[eR])
 fs:=e7.nil
 writes:=e7.nil
 dS:=kM.nil _ _ _
 ids:=by simp[Ab.new]
 known:=by simp[Ab.new]
 gX:=by simp[Ab.new]
 nodup:=by simp[Ab.new]
 gD:=by simp[Ab.new]
 il:=by simp[Ab.new]
 fG:=by simp[Ab.new]
 im:=h
 kq:=by simp[Ab.new]
 full:=by simp[Ab.new]
def P3(room:Nat)(h1:1≤room)(h2:room≤1073741824) :
  aE Tryz.prog 6 [.int .i64 room] [] (fun v H=>∃bd D,Rel D (Ab.new room)∧v = .tuple #[ptr bd,.int .i64 0]∧H=[hJ bd D]):=by
 refine aE.au Tryz.func6 Tryz.ntmps6 fun G F R hE=>?_
 repeat'(first|(with_reducible intro pH)|refine gO ?_|refine iy zr zr zr zr ?_ ?_|refine aq zr zr ?_ ?_)
 ·omega
 ·omega
 refine ox rfl bD ?_
 intro bm
 refine aI (ao.head (B:=[kZ (bm,[])]) (fun h hs=>⟨h,sub.refl h,gk (p8 _ _ h hs)⟩)) ?_
 refine ox rfl bD ?_
 intro Sd
 refine aI (ao.head (B:=[kZ (Sd,[])]) (fun h hs=>⟨h,sub.refl h,gk (p8 _ _ h hs)⟩)) ?_
 refine aj zr zr zr zr zr zr zr zr zr bD ?_
 intro b0
 refine go ?_
 refine bG zr zr bD ?_
 intro bd
 refine go ?_
 refine ai (Ax kZ _) ?_
 refine ai (ao.pick [4,0] rfl) ?_
 refine ai (qJ kZ (bm,[]) [] _) ?_
 refine ai (ao.pick [3,0] rfl) ?_
 refine ai (qJ kZ (Sd,[]) [(bm,[])] _) ?_
 refine ai (ao.pick [2] rfl) ?_
 refine ai (dR 56 1 b0 1 1 [.map (some Sd)] [] _ rfl (Nat.le_refl _) (by simp)) ?_
 refine ai (bO 95 3 none _) ?_
 refine ai (ub 5 _) ?_
 refine ai (Ax ff _) ?_
 refine ai (ao.pick [5,4,1,0,3,2] rfl) ?_
 refine ai (ep bd room bm (.slice (some ⟨b0,0,none⟩) 1 1) (.slice none 0 0) (.slice none 0 0) false [(Sd,[]),(bm,[])] [] [] [Sd] [] _) ?_
 refine aL hE Tryz.func6 rfl _ rfl ⟨bd,_,Rel.new room bm Sd _ h2,rfl,rfl⟩ (ao.fin [0] 0 zr zr)
def oU{l:List (ByteArray × Nat)}:(Ab.cM l k).isSome=true↔k∈l.map (·.1):=by
 unfold Ab.cM
 rw[Option.isSome_map,List.find?_isSome]
 simp only[decide_eq_true_eq,List.mem_map]
def Bo(l:List (ByteArray × Nat))(k:ByteArray):rE (eR l) k=eR (Ab.dE l k):=by
 unfold rE eR Ab.dE
 rw[List.filter_map]
 rfl
def Bk(l:List (ByteArray × Nat))(k:ByteArray)(f:Nat):nD (eR l) k (ptr f)=eR (Ab.jT l k f):=by
 have hk:(eR l).map (·.1)=l.map (·.1):=by simp[eR,Function.comp_def]
 unfold nD Ab.jT
 rw[hk]
 by_cases h:(Ab.cM l k).isSome=true
 ·rw[if_pos (oU.1 h),if_pos h]
  simp only[eR,List.map_map]
  apply List.map_congr_left
  intro x _
  simp only[Function.comp]
  split <;> rfl
 ·rw[if_neg (fun h'=>h (oU.2 h')),if_neg h]
  simp[eR]
def FF(b box:Nat)(l:List (ByteArray × Nat))(k:ByteArray) :
  aE Tryz.prog 163 [.map (some b),ptr box] [aQ Value.string b (eR l),ae box (cl [.string k] 9)] (fun _ H=>H=[aQ Value.string b (eR (Ab.dE l k)),ae box (cl [.string k] 9)]):=by
 refine aE.au Tryz.func163 Tryz.ntmps163 fun G F R hE=>?_
 refine go ?_
 refine mM 0 wj gB zr zr zr zr zr zr zr ?_
 rw[Bo]
 refine go ?_
 refine bU hE Tryz.func163 rfl _ zr zr (ao.fin [0,1] 0 zr zr)
def qu(b zg zf ab1 f:Nat)(l:List (ByteArray × Nat))(k k2:ByteArray) :
  aE Tryz.prog 202 [.map (some b),ptr zg,ptr zf,ptr ab1] [aQ Value.string b (eR l),Sep [ae zg (cl [.string k] 9),ae zf (cl [ptr f] 93),ae ab1 (cl [.string k2] 9)]]
   (fun _ H=>H=[aQ Value.string b (eR (Ab.jT (Ab.dE l k) k2 f)),emp]):=by
 refine aE.au Tryz.func202 Tryz.ntmps202 fun G F R hE=>?_
 refine ai (ao.pick [1] rfl) ?_
 refine ai (ao.cJ _ _) (go ?_)
 refine mM 3 wj gB zr zr zr zr zr zr zr ?_
 rw[Bo]
 refine go ?_
 refine jq 3 wj gB zr zr zr zr zr zr zr zr ?_
 rw[Bk]
 refine go ?_
 refine ai (ao.qt _) ?_
 refine bU hE Tryz.func202 rfl _ zr zr (ao.fin [4,0] 3 zr zr)
def F0(b box:Nat)(l:List (ByteArray × Nat))(k:ByteArray) :
  aE Tryz.prog 137 [.map (some b),ptr box] [aQ Value.string b (eR l),ae box (cl [.string k] 9)]
   (fun _ H=>∃f,True∧H=[aQ Value.string b (eR (Ab.jT l k f)),ff (f,.slice none 0 0,.slice none 0 0)]):=by
 refine aE.au Tryz.func137 Tryz.ntmps137 fun G F R hE=>?_
 refine go ?_
 refine bG zr zr bD ?_
 intro f
 refine go ?_
 refine jq (v:=ptr f) 1 wj gB zr zr zr zr zr zr zr zr ?_
 rw[Bk]
 refine go ?_
 refine bU hE Tryz.func137 rfl _ rfl ⟨f,trivial,rfl⟩ (ao.fin [1,0] 1 zr zr)
end Go.Proofs.YtdigdgohdpeebaaGreatDoor
