import Derived.Test.YtjpboghdolfekaaGreatDoorQMQ2
import Derived.Test.YtjpboghdolfekaaGreatDoorQMQ3
import Derived.Test.YtjpboghdolfekaaGreatDoorProg
set_option linter.defProp false
set_option linter.unusedSimpArgs false
set_option linter.unusedVariables false
set_option linter.defProp false
namespace Go.Proofs.YtjpboghdolfekaaGreatDoor
open Go.SL
def TP(i:TypeId)(a b:TypeInfo):Prop:=Tryz.prog.underlying i=some a.desc∧Tryz.prog.info? i=some b
def aem:TP 1 Tryz.t1 Tryz.t1:=⟨ae,ae⟩
def ael:TP 2 Tryz.t2 Tryz.t2:=⟨ae,ae⟩
def aek:TP 3 Tryz.t3 Tryz.t3:=⟨ae,ae⟩
def aej:TP 4 Tryz.t4 Tryz.t4:=⟨ae,ae⟩
def aei:TP 5 Tryz.t5 Tryz.t5:=⟨ae,ae⟩
def aeh:TP 6 Tryz.t5 Tryz.t6:=⟨ae,ae⟩
def aeg:TP 7 Tryz.t7 Tryz.t7:=⟨ae,ae⟩
def aef:TP 8 Tryz.t7 Tryz.t8:=⟨ae,ae⟩
def aee:TP 9 Tryz.t9 Tryz.t9:=⟨ae,ae⟩
def acC:TP 10 Tryz.t9 Tryz.t10:=⟨ae,ae⟩
def acB:TP 11 Tryz.t9 Tryz.t11:=⟨ae,ae⟩
def acA:TP 12 Tryz.t12 Tryz.t12:=⟨ae,ae⟩
def acz:TP 13 Tryz.t13 Tryz.t13:=⟨ae,ae⟩
def acy:TP 14 Tryz.t13 Tryz.t14:=⟨ae,ae⟩
def acx:TP 15 Tryz.t15 Tryz.t15:=⟨ae,ae⟩
def acw:TP 16 Tryz.t16 Tryz.t16:=⟨ae,ae⟩
def acv:TP 17 Tryz.t17 Tryz.t17:=⟨ae,ae⟩
def acu:TP 18 Tryz.t18 Tryz.t18:=⟨ae,ae⟩
def acs:TP 19 Tryz.t18 Tryz.t19:=⟨ae,ae⟩
def acr:TP 20 Tryz.t20 Tryz.t20:=⟨ae,ae⟩
def acq:TP 21 Tryz.t21 Tryz.t21:=⟨ae,ae⟩
def acp:TP 22 Tryz.t22 Tryz.t22:=⟨ae,ae⟩
def aco:TP 23 Tryz.t23 Tryz.t23:=⟨ae,ae⟩
def acn:TP 24 Tryz.t24 Tryz.t24:=⟨ae,ae⟩
def acm:TP 25 Tryz.t25 Tryz.t25:=⟨ae,ae⟩
def ack:TP 26 Tryz.t3 Tryz.t26:=⟨ae,ae⟩
def acj:TP 28 Tryz.t28 Tryz.t28:=⟨ae,ae⟩
def aci:TP 29 Tryz.t29 Tryz.t29:=⟨ae,ae⟩
def ach:TP 30 Tryz.t29 Tryz.t30:=⟨ae,ae⟩
def acg:TP 31 Tryz.t31 Tryz.t31:=⟨ae,ae⟩
def acf:TP 32 Tryz.t31 Tryz.t32:=⟨ae,ae⟩
def ace:TP 33 Tryz.t33 Tryz.t33:=⟨ae,ae⟩
def acd:TP 34 Tryz.t34 Tryz.t34:=⟨ae,ae⟩
def acb:TP 35 Tryz.t34 Tryz.t35:=⟨ae,ae⟩
def aca:TP 36 Tryz.t36 Tryz.t36:=⟨ae,ae⟩
def ab':TP 37 Tryz.t37 Tryz.t37:=⟨ae,ae⟩
def ab9:TP 38 Tryz.t38 Tryz.t38:=⟨ae,ae⟩
def ab8:TP 39 Tryz.t39 Tryz.t39:=⟨ae,ae⟩
def ab7:TP 40 Tryz.t39 Tryz.t40:=⟨ae,ae⟩
def ab6:TP 41 Tryz.t41 Tryz.t41:=⟨ae,ae⟩
def ab5:TP 42 Tryz.t42 Tryz.t42:=⟨ae,ae⟩
def ab4:TP 43 Tryz.t43 Tryz.t43:=⟨ae,ae⟩
def ab3:TP 44 Tryz.t44 Tryz.t44:=⟨ae,ae⟩
def ab2:TP 45 Tryz.t45 Tryz.t45:=⟨ae,ae⟩
def ab1:TP 46 Tryz.t46 Tryz.t46:=⟨ae,ae⟩
def ab0:TP 47 Tryz.t47 Tryz.t47:=⟨ae,ae⟩
def abZ:TP 48 Tryz.t48 Tryz.t48:=⟨ae,ae⟩
def abY:TP 49 Tryz.t49 Tryz.t49:=⟨ae,ae⟩
def abX:TP 50 Tryz.t50 Tryz.t50:=⟨ae,ae⟩
def abW:TP 51 Tryz.t51 Tryz.t51:=⟨ae,ae⟩
def abV:TP 52 Tryz.t52 Tryz.t52:=⟨ae,ae⟩
def abU:TP 53 Tryz.t53 Tryz.t53:=⟨ae,ae⟩
def abT:TP 54 Tryz.t54 Tryz.t54:=⟨ae,ae⟩
def abS:TP 55 Tryz.t55 Tryz.t55:=⟨ae,ae⟩
def abR:TP 56 Tryz.t56 Tryz.t56:=⟨ae,ae⟩
def abQ:TP 57 Tryz.t56 Tryz.t57:=⟨ae,ae⟩
def abP:TP 59 Tryz.t59 Tryz.t59:=⟨ae,ae⟩
def abO:TP 61 Tryz.t61 Tryz.t61:=⟨ae,ae⟩
def abN:TP 62 Tryz.t62 Tryz.t62:=⟨ae,ae⟩
def abM:TP 64 Tryz.t64 Tryz.t64:=⟨ae,ae⟩
def abL:TP 65 Tryz.t65 Tryz.t65:=⟨ae,ae⟩
def abK:TP 66 Tryz.t66 Tryz.t66:=⟨ae,ae⟩
def abJ:TP 67 Tryz.t66 Tryz.t67:=⟨ae,ae⟩
def abI:TP 68 Tryz.t68 Tryz.t68:=⟨ae,ae⟩
def abH:TP 69 Tryz.t69 Tryz.t69:=⟨ae,ae⟩
def abG:TP 70 Tryz.t70 Tryz.t70:=⟨ae,ae⟩
def abF:TP 71 Tryz.t71 Tryz.t71:=⟨ae,ae⟩
def abE:TP 72 Tryz.t72 Tryz.t72:=⟨ae,ae⟩
def abD:TP 73 Tryz.t73 Tryz.t73:=⟨ae,ae⟩
def abC:TP 74 Tryz.t74 Tryz.t74:=⟨ae,ae⟩
def abB:TP 75 Tryz.t75 Tryz.t75:=⟨ae,ae⟩
def abA:TP 76 Tryz.t76 Tryz.t76:=⟨ae,ae⟩
def abz:TP 77 Tryz.t77 Tryz.t77:=⟨ae,ae⟩
def aby:TP 78 Tryz.t78 Tryz.t78:=⟨ae,ae⟩
def abx:TP 79 Tryz.t79 Tryz.t79:=⟨ae,ae⟩
def abw:TP 80 Tryz.t80 Tryz.t80:=⟨ae,ae⟩
def abv:TP 81 Tryz.t81 Tryz.t81:=⟨ae,ae⟩
def abu:TP 82 Tryz.t82 Tryz.t82:=⟨ae,ae⟩
def abt:TP 83 Tryz.t83 Tryz.t83:=⟨ae,ae⟩
def abr:TP 84 Tryz.t84 Tryz.t84:=⟨ae,ae⟩
def abq:TP 86 Tryz.t86 Tryz.t86:=⟨ae,ae⟩
def abp:TP 87 Tryz.t87 Tryz.t87:=⟨ae,ae⟩
def abo:TP 88 Tryz.t88 Tryz.t88:=⟨ae,ae⟩
def abn:TP 89 Tryz.t89 Tryz.t89:=⟨ae,ae⟩
def abm:TP 90 Tryz.t89 Tryz.t90:=⟨ae,ae⟩
def abl:TP 91 Tryz.t91 Tryz.t91:=⟨ae,ae⟩
def abk:TP 92 Tryz.t91 Tryz.t92:=⟨ae,ae⟩
def abj:TP 93 Tryz.t93 Tryz.t93:=⟨ae,ae⟩
def abi:TP 94 Tryz.t93 Tryz.t94:=⟨ae,ae⟩
def abh:TP 95 Tryz.t95 Tryz.t95:=⟨ae,ae⟩
def abg:TP 96 Tryz.t96 Tryz.t96:=⟨ae,ae⟩
def abf:TP 97 Tryz.t97 Tryz.t97:=⟨ae,ae⟩
def abe:TP 98 Tryz.t97 Tryz.t98:=⟨ae,ae⟩
def abd:TP 99 Tryz.t99 Tryz.t99:=⟨ae,ae⟩
def ZI:TP 101 Tryz.t101 Tryz.t101:=⟨ae,ae⟩
def ZH:TP 103 Tryz.t103 Tryz.t103:=⟨ae,ae⟩
def ZG:TP 104 Tryz.t104 Tryz.t104:=⟨ae,ae⟩
def ZF:TP 105 Tryz.t104 Tryz.t105:=⟨ae,ae⟩
def ZE:TP 106 Tryz.t106 Tryz.t106:=⟨ae,ae⟩
def ZD:TP 107 Tryz.t107 Tryz.t107:=⟨ae,ae⟩
def ZC:TP 109 Tryz.t109 Tryz.t109:=⟨ae,ae⟩
def ZB:TP 110 Tryz.t110 Tryz.t110:=⟨ae,ae⟩
def ZA:TP 112 Tryz.t112 Tryz.t112:=⟨ae,ae⟩
def Zz:TP 113 Tryz.t113 Tryz.t113:=⟨ae,ae⟩
def Zy:TP 114 Tryz.t114 Tryz.t114:=⟨ae,ae⟩
def Zx:TP 115 Tryz.t115 Tryz.t115:=⟨ae,ae⟩
def Zw:TP 116 Tryz.t116 Tryz.t116:=⟨ae,ae⟩
def Zv:TP 117 Tryz.t117 Tryz.t117:=⟨ae,ae⟩
def Zu:TP 118 Tryz.t118 Tryz.t118:=⟨ae,ae⟩
def Zt:TP 119 Tryz.t119 Tryz.t119:=⟨ae,ae⟩
def Zs:TP 120 Tryz.t120 Tryz.t120:=⟨ae,ae⟩
def Zr:TP 121 Tryz.t121 Tryz.t121:=⟨ae,ae⟩
def Zq:TP 122 Tryz.t122 Tryz.t122:=⟨ae,ae⟩
def Zp:TP 123 Tryz.t123 Tryz.t123:=⟨ae,ae⟩
def Zo:TP 124 Tryz.t124 Tryz.t124:=⟨ae,ae⟩
def Zn:TP 125 Tryz.t125 Tryz.t125:=⟨ae,ae⟩
def Zm:TP 126 Tryz.t126 Tryz.t126:=⟨ae,ae⟩
def Zl:TP 127 Tryz.t127 Tryz.t127:=⟨ae,ae⟩
def Zk:TP 128 Tryz.t128 Tryz.t128:=⟨ae,ae⟩
def Zj:TP 129 Tryz.t129 Tryz.t129:=⟨ae,ae⟩
def Zi:TP 130 Tryz.t130 Tryz.t130:=⟨ae,ae⟩
def Zh:TP 131 Tryz.t130 Tryz.t131:=⟨ae,ae⟩
def Zg:TP 132 Tryz.t132 Tryz.t132:=⟨ae,ae⟩
def Zf:TP 133 Tryz.t133 Tryz.t133:=⟨ae,ae⟩
def Ze:TP 134 Tryz.t133 Tryz.t134:=⟨ae,ae⟩
def Zd:TP 136 Tryz.t136 Tryz.t136:=⟨ae,ae⟩
def Zc:TP 137 Tryz.t137 Tryz.t137:=⟨ae,ae⟩
def Zb:TP 139 Tryz.t139 Tryz.t139:=⟨ae,ae⟩
def Za:TP 141 Tryz.t141 Tryz.t141:=⟨ae,ae⟩
def Y':TP 143 Tryz.t143 Tryz.t143:=⟨ae,ae⟩
def Y9:TP 145 Tryz.t145 Tryz.t145:=⟨ae,ae⟩
def Y8:TP 146 Tryz.t146 Tryz.t146:=⟨ae,ae⟩
def Y7:TP 148 Tryz.t148 Tryz.t148:=⟨ae,ae⟩
def Y6:TP 149 Tryz.t149 Tryz.t149:=⟨ae,ae⟩
def Y5:TP 150 Tryz.t150 Tryz.t150:=⟨ae,ae⟩
def Y4:TP 151 Tryz.t151 Tryz.t151:=⟨ae,ae⟩
def Y3:TP 152 Tryz.t152 Tryz.t152:=⟨ae,ae⟩
def Y2:TP 153 Tryz.t153 Tryz.t153:=⟨ae,ae⟩
def Y1:TP 154 Tryz.t153 Tryz.t154:=⟨ae,ae⟩
def Y0:TP 156 Tryz.t156 Tryz.t156:=⟨ae,ae⟩
def YZ:TP 158 Tryz.t158 Tryz.t158:=⟨ae,ae⟩
def YY:TP 159 Tryz.t159 Tryz.t159:=⟨ae,ae⟩
def YX:TP 160 Tryz.t159 Tryz.t160:=⟨ae,ae⟩
def YW:TP 161 Tryz.t161 Tryz.t161:=⟨ae,ae⟩
def YV:TP 163 Tryz.t163 Tryz.t163:=⟨ae,ae⟩
def YU:TP 165 Tryz.t165 Tryz.t165:=⟨ae,ae⟩
def YT:TP 166 Tryz.t166 Tryz.t166:=⟨ae,ae⟩
def YS:TP 167 Tryz.t167 Tryz.t167:=⟨ae,ae⟩
def YR:TP 169 Tryz.t169 Tryz.t169:=⟨ae,ae⟩
def YQ:TP 170 Tryz.t170 Tryz.t170:=⟨ae,ae⟩
def YP:TP 172 Tryz.t172 Tryz.t172:=⟨ae,ae⟩
def YO:TP 173 Tryz.t173 Tryz.t173:=⟨ae,ae⟩
def YN:TP 174 Tryz.t174 Tryz.t174:=⟨ae,ae⟩
def YM:TP 175 Tryz.t174 Tryz.t175:=⟨ae,ae⟩
def YL:TP 177 Tryz.t177 Tryz.t177:=⟨ae,ae⟩
def YK:TP 178 Tryz.t178 Tryz.t178:=⟨ae,ae⟩
def YJ:TP 179 Tryz.t178 Tryz.t179:=⟨ae,ae⟩
def YI:TP 180 Tryz.t180 Tryz.t180:=⟨ae,ae⟩
def YH:TP 181 Tryz.t181 Tryz.t181:=⟨ae,ae⟩
def YG:TP 182 Tryz.t181 Tryz.t182:=⟨ae,ae⟩
def YF:TP 184 Tryz.t184 Tryz.t184:=⟨ae,ae⟩
def YE:TP 186 Tryz.t186 Tryz.t186:=⟨ae,ae⟩
def YD:TP 187 Tryz.t187 Tryz.t187:=⟨ae,ae⟩
def YC:TP 188 Tryz.t187 Tryz.t188:=⟨ae,ae⟩
def YB:TP 189 Tryz.t189 Tryz.t189:=⟨ae,ae⟩
def YA:TP 192 Tryz.t192 Tryz.t192:=⟨ae,ae⟩
def Yz:TP 193 Tryz.t193 Tryz.t193:=⟨ae,ae⟩
def Yy:TP 194 Tryz.t194 Tryz.t194:=⟨ae,ae⟩
def Yx:TP 195 Tryz.t194 Tryz.t195:=⟨ae,ae⟩
def Yw:TP 196 Tryz.t196 Tryz.t196:=⟨ae,ae⟩
def Yv:TP 197 Tryz.t197 Tryz.t197:=⟨ae,ae⟩
def Yu:TP 198 Tryz.t198 Tryz.t198:=⟨ae,ae⟩
def Yt:TP 199 Tryz.t198 Tryz.t199:=⟨ae,ae⟩
def Ys:TP 200 Tryz.t200 Tryz.t200:=⟨ae,ae⟩
def Yr:TP 201 Tryz.t201 Tryz.t201:=⟨ae,ae⟩
def Yq:TP 202 Tryz.t202 Tryz.t202:=⟨ae,ae⟩
def Yp:TP 203 Tryz.t203 Tryz.t203:=⟨ae,ae⟩
def Yo:TP 204 Tryz.t203 Tryz.t204:=⟨ae,ae⟩
def Yn:TP 205 Tryz.t205 Tryz.t205:=⟨ae,ae⟩
def Ym:TP 206 Tryz.t206 Tryz.t206:=⟨ae,ae⟩
def Yl:TP 207 Tryz.t207 Tryz.t207:=⟨ae,ae⟩
def Yk:TP 208 Tryz.t208 Tryz.t208:=⟨ae,ae⟩
def Yj:TP 209 Tryz.t208 Tryz.t209:=⟨ae,ae⟩
def Yi:TP 210 Tryz.t210 Tryz.t210:=⟨ae,ae⟩
def Yh:TP 212 Tryz.t212 Tryz.t212:=⟨ae,ae⟩
def Yg:TP 213 Tryz.t213 Tryz.t213:=⟨ae,ae⟩
def Yf:TP 214 Tryz.t214 Tryz.t214:=⟨ae,ae⟩
def Ye:TP 215 Tryz.t215 Tryz.t215:=⟨ae,ae⟩
def Yd:TP 216 Tryz.t215 Tryz.t216:=⟨ae,ae⟩
def Yc:TP 217 Tryz.t217 Tryz.t217:=⟨ae,ae⟩
def Yb:TP 218 Tryz.t218 Tryz.t218:=⟨ae,ae⟩
def Ya:TP 219 Tryz.t219 Tryz.t219:=⟨ae,ae⟩
def X':TP 220 Tryz.t220 Tryz.t220:=⟨ae,ae⟩
def X9:TP 221 Tryz.t220 Tryz.t221:=⟨ae,ae⟩
def X8:TP 222 Tryz.t222 Tryz.t222:=⟨ae,ae⟩
def X7:TP 223 Tryz.t223 Tryz.t223:=⟨ae,ae⟩
def X6:TP 224 Tryz.t223 Tryz.t224:=⟨ae,ae⟩
def X5:TP 225 Tryz.t225 Tryz.t225:=⟨ae,ae⟩
def X4:TP 226 Tryz.t226 Tryz.t226:=⟨ae,ae⟩
def X3:TP 227 Tryz.t227 Tryz.t227:=⟨ae,ae⟩
def X2:TP 228 Tryz.t227 Tryz.t228:=⟨ae,ae⟩
def X1:TP 229 Tryz.t229 Tryz.t229:=⟨ae,ae⟩
def X0:TP 230 Tryz.t230 Tryz.t230:=⟨ae,ae⟩
def XZ:TP 232 Tryz.t232 Tryz.t232:=⟨ae,ae⟩
def XY:TP 233 Tryz.t233 Tryz.t233:=⟨ae,ae⟩
def XX:TP 234 Tryz.t234 Tryz.t234:=⟨ae,ae⟩
def XW:TP 235 Tryz.t235 Tryz.t235:=⟨ae,ae⟩
def XV:TP 236 Tryz.t236 Tryz.t236:=⟨ae,ae⟩
def XU:TP 237 Tryz.t237 Tryz.t237:=⟨ae,ae⟩
def XT:TP 238 Tryz.t237 Tryz.t238:=⟨ae,ae⟩
def XS:TP 239 Tryz.t239 Tryz.t239:=⟨ae,ae⟩
def XR:TP 240 Tryz.t240 Tryz.t240:=⟨ae,ae⟩
def XQ:TP 241 Tryz.t240 Tryz.t241:=⟨ae,ae⟩
def XP:TP 242 Tryz.t242 Tryz.t242:=⟨ae,ae⟩
def XO:TP 243 Tryz.t243 Tryz.t243:=⟨ae,ae⟩
def XN:TP 245 Tryz.t245 Tryz.t245:=⟨ae,ae⟩
def XM:TP 246 Tryz.t246 Tryz.t246:=⟨ae,ae⟩
def XL:TP 247 Tryz.t246 Tryz.t247:=⟨ae,ae⟩
def XK:TP 248 Tryz.t248 Tryz.t248:=⟨ae,ae⟩
def XJ:TP 249 Tryz.t249 Tryz.t249:=⟨ae,ae⟩
def XI:TP 250 Tryz.t250 Tryz.t250:=⟨ae,ae⟩
def XH:TP 251 Tryz.t251 Tryz.t251:=⟨ae,ae⟩
def XG:TP 252 Tryz.t252 Tryz.t252:=⟨ae,ae⟩
def XF:TP 253 Tryz.t253 Tryz.t253:=⟨ae,ae⟩
def XE:TP 254 Tryz.t254 Tryz.t254:=⟨ae,ae⟩
def XD:TP 255 Tryz.t255 Tryz.t255:=⟨ae,ae⟩
def XC:TP 256 Tryz.t256 Tryz.t256:=⟨ae,ae⟩
def XB:TP 257 Tryz.t257 Tryz.t257:=⟨ae,ae⟩
def XA:TP 258 Tryz.t258 Tryz.t258:=⟨ae,ae⟩
def Xz:TP 260 Tryz.t260 Tryz.t260:=⟨ae,ae⟩
def Xy:TP 261 Tryz.t260 Tryz.t261:=⟨ae,ae⟩
def Xx:TP 262 Tryz.t262 Tryz.t262:=⟨ae,ae⟩
def Xw:TP 263 Tryz.t263 Tryz.t263:=⟨ae,ae⟩
def Xv:TP 264 Tryz.t264 Tryz.t264:=⟨ae,ae⟩
def Xu:TP 265 Tryz.t265 Tryz.t265:=⟨ae,ae⟩
def Xt:TP 266 Tryz.t266 Tryz.t266:=⟨ae,ae⟩
def Xr:TP 267 Tryz.t266 Tryz.t267:=⟨ae,ae⟩
def Xq:TP 268 Tryz.t268 Tryz.t268:=⟨ae,ae⟩
def Xp:TP 269 Tryz.t269 Tryz.t269:=⟨ae,ae⟩
def Xo:TP 270 Tryz.t270 Tryz.t270:=⟨ae,ae⟩
def Xn:TP 271 Tryz.t270 Tryz.t271:=⟨ae,ae⟩
def Xm:TP 272 Tryz.t272 Tryz.t272:=⟨ae,ae⟩
def Xl:TP 273 Tryz.t273 Tryz.t273:=⟨ae,ae⟩
def Xk:TP 274 Tryz.t274 Tryz.t274:=⟨ae,ae⟩
def Xj:TP 275 Tryz.t275 Tryz.t275:=⟨ae,ae⟩
def Xi:TP 276 Tryz.t275 Tryz.t276:=⟨ae,ae⟩
def Xh:TP 277 Tryz.t277 Tryz.t277:=⟨ae,ae⟩
def Xg:TP 278 Tryz.t277 Tryz.t278:=⟨ae,ae⟩
def Xf:TP 279 Tryz.t279 Tryz.t279:=⟨ae,ae⟩
def Xe:TP 280 Tryz.t280 Tryz.t280:=⟨ae,ae⟩
def Xd:TP 281 Tryz.t281 Tryz.t281:=⟨ae,ae⟩
def Xc:TP 282 Tryz.t282 Tryz.t282:=⟨ae,ae⟩
def Xb:TP 283 Tryz.t283 Tryz.t283:=⟨ae,ae⟩
def Xa:TP 284 Tryz.t284 Tryz.t284:=⟨ae,ae⟩
def W9:TP 285 Tryz.t285 Tryz.t285:=⟨ae,ae⟩
def W8:TP 286 Tryz.t286 Tryz.t286:=⟨ae,ae⟩
def W7:TP 287 Tryz.t287 Tryz.t287:=⟨ae,ae⟩
def W6:TP 288 Tryz.t288 Tryz.t288:=⟨ae,ae⟩
def W5:TP 289 Tryz.t289 Tryz.t289:=⟨ae,ae⟩
def W4:TP 290 Tryz.t290 Tryz.t290:=⟨ae,ae⟩
def W3:TP 291 Tryz.t291 Tryz.t291:=⟨ae,ae⟩
def W2:TP 292 Tryz.t292 Tryz.t292:=⟨ae,ae⟩
def W1:TP 293 Tryz.t293 Tryz.t293:=⟨ae,ae⟩
def W0:TP 294 Tryz.t294 Tryz.t294:=⟨ae,ae⟩
def WZ:TP 295 Tryz.t295 Tryz.t295:=⟨ae,ae⟩
def WY:TP 296 Tryz.t296 Tryz.t296:=⟨ae,ae⟩
def WX:TP 297 Tryz.t296 Tryz.t297:=⟨ae,ae⟩
def WW:TP 298 Tryz.t298 Tryz.t298:=⟨ae,ae⟩
def WV:TP 299 Tryz.t299 Tryz.t299:=⟨ae,ae⟩
def WU:TP 300 Tryz.t300 Tryz.t300:=⟨ae,ae⟩
def WT:TP 301 Tryz.t301 Tryz.t301:=⟨ae,ae⟩
def WS:TP 302 Tryz.t302 Tryz.t302:=⟨ae,ae⟩
def WR:TP 303 Tryz.t303 Tryz.t303:=⟨ae,ae⟩
def WQ:TP 304 Tryz.t304 Tryz.t304:=⟨ae,ae⟩
def WO:TP 305 Tryz.t305 Tryz.t305:=⟨ae,ae⟩
def WN:TP 306 Tryz.t306 Tryz.t306:=⟨ae,ae⟩
def WM:TP 307 Tryz.t307 Tryz.t307:=⟨ae,ae⟩
def WL:TP 308 Tryz.t308 Tryz.t308:=⟨ae,ae⟩
def WK:TP 309 Tryz.t309 Tryz.t309:=⟨ae,ae⟩
def WJ:TP 310 Tryz.t310 Tryz.t310:=⟨ae,ae⟩
def WI:TP 311 Tryz.t311 Tryz.t311:=⟨ae,ae⟩
def WH:TP 312 Tryz.t311 Tryz.t312:=⟨ae,ae⟩
def WG:TP 313 Tryz.t313 Tryz.t313:=⟨ae,ae⟩
def WE:TP 314 Tryz.t314 Tryz.t314:=⟨ae,ae⟩
def WD:TP 315 Tryz.t315 Tryz.t315:=⟨ae,ae⟩
def WC:TP 316 Tryz.t316 Tryz.t316:=⟨ae,ae⟩
def WB:TP 318 Tryz.t318 Tryz.t318:=⟨ae,ae⟩
def WA:TP 319 Tryz.t319 Tryz.t319:=⟨ae,ae⟩
def Wz:TP 320 Tryz.t320 Tryz.t320:=⟨ae,ae⟩
def Wy:TP 321 Tryz.t321 Tryz.t321:=⟨ae,ae⟩
def Wx:TP 322 Tryz.t322 Tryz.t322:=⟨ae,ae⟩
def Ww:TP 323 Tryz.t323 Tryz.t323:=⟨ae,ae⟩
def Wv:TP 324 Tryz.t323 Tryz.t324:=⟨ae,ae⟩
def Wu:TP 325 Tryz.t325 Tryz.t325:=⟨ae,ae⟩
def Ws:TP 326 Tryz.t326 Tryz.t326:=⟨ae,ae⟩
def Wr:TP 327 Tryz.t326 Tryz.t327:=⟨ae,ae⟩
def Wq:TP 329 Tryz.t329 Tryz.t329:=⟨ae,ae⟩
def Wp:TP 330 Tryz.t330 Tryz.t330:=⟨ae,ae⟩
def Wo:TP 331 Tryz.t331 Tryz.t331:=⟨ae,ae⟩
def Wn:TP 332 Tryz.t332 Tryz.t332:=⟨ae,ae⟩
def Wm:TP 333 Tryz.t333 Tryz.t333:=⟨ae,ae⟩
def Wk:TP 335 Tryz.t335 Tryz.t335:=⟨ae,ae⟩
def Wj:TP 336 Tryz.t336 Tryz.t336:=⟨ae,ae⟩
def Wi:TP 337 Tryz.t337 Tryz.t337:=⟨ae,ae⟩
def Wh:TP 338 Tryz.t338 Tryz.t338:=⟨ae,ae⟩
def Wg:TP 339 Tryz.t339 Tryz.t339:=⟨ae,ae⟩
def Wf:TP 340 Tryz.t340 Tryz.t340:=⟨ae,ae⟩
def We:TP 342 Tryz.t342 Tryz.t342:=⟨ae,ae⟩
def Wd:TP 343 Tryz.t343 Tryz.t343:=⟨ae,ae⟩
def Wc:TP 345 Tryz.t345 Tryz.t345:=⟨ae,ae⟩
def Wb:TP 346 Tryz.t346 Tryz.t346:=⟨ae,ae⟩
def Wa:TP 347 Tryz.t346 Tryz.t347:=⟨ae,ae⟩
def V9:TP 348 Tryz.t348 Tryz.t348:=⟨ae,ae⟩
def V8:TP 349 Tryz.t348 Tryz.t349:=⟨ae,ae⟩
def V7:TP 350 Tryz.t350 Tryz.t350:=⟨ae,ae⟩
def V6:TP 351 Tryz.t351 Tryz.t351:=⟨ae,ae⟩
def V5:TP 352 Tryz.t352 Tryz.t352:=⟨ae,ae⟩
def V4:TP 353 Tryz.t353 Tryz.t353:=⟨ae,ae⟩
def V3:TP 355 Tryz.t355 Tryz.t355:=⟨ae,ae⟩
def V2:TP 356 Tryz.t356 Tryz.t356:=⟨ae,ae⟩
def V0:TP 357 Tryz.t357 Tryz.t357:=⟨ae,ae⟩
def VZ:TP 358 Tryz.t357 Tryz.t358:=⟨ae,ae⟩
def VY:TP 360 Tryz.t360 Tryz.t360:=⟨ae,ae⟩
def VX:TP 361 Tryz.t361 Tryz.t361:=⟨ae,ae⟩
def VW:TP 362 Tryz.t362 Tryz.t362:=⟨ae,ae⟩
def VV:TP 363 Tryz.t363 Tryz.t363:=⟨ae,ae⟩
def VU:TP 364 Tryz.t364 Tryz.t364:=⟨ae,ae⟩
def VT:TP 365 Tryz.t365 Tryz.t365:=⟨ae,ae⟩
def VS:TP 366 Tryz.t365 Tryz.t366:=⟨ae,ae⟩
def VR:TP 368 Tryz.t368 Tryz.t368:=⟨ae,ae⟩
def VQ:TP 370 Tryz.t370 Tryz.t370:=⟨ae,ae⟩
def VP:TP 372 Tryz.t372 Tryz.t372:=⟨ae,ae⟩
def VO:TP 374 Tryz.t374 Tryz.t374:=⟨ae,ae⟩
def VN:TP 376 Tryz.t376 Tryz.t376:=⟨ae,ae⟩
def VL:TP 377 Tryz.t377 Tryz.t377:=⟨ae,ae⟩
def VK:TP 378 Tryz.t378 Tryz.t378:=⟨ae,ae⟩
def VJ:TP 380 Tryz.t380 Tryz.t380:=⟨ae,ae⟩
def VI:TP 381 Tryz.t381 Tryz.t381:=⟨ae,ae⟩
def VH:TP 382 Tryz.t382 Tryz.t382:=⟨ae,ae⟩
def VG:TP 383 Tryz.t383 Tryz.t383:=⟨ae,ae⟩
def VF:TP 384 Tryz.t384 Tryz.t384:=⟨ae,ae⟩
def VE:TP 385 Tryz.t385 Tryz.t385:=⟨ae,ae⟩
def VD:TP 386 Tryz.t386 Tryz.t386:=⟨ae,ae⟩
def VC:TP 387 Tryz.t387 Tryz.t387:=⟨ae,ae⟩
def VB:TP 388 Tryz.t387 Tryz.t388:=⟨ae,ae⟩
def VA:TP 389 Tryz.t389 Tryz.t389:=⟨ae,ae⟩
def Vz:TP 390 Tryz.t390 Tryz.t390:=⟨ae,ae⟩
def Vy:TP 392 Tryz.t392 Tryz.t392:=⟨ae,ae⟩
def Vx:TP 394 Tryz.t394 Tryz.t394:=⟨ae,ae⟩
def Vv:TP 395 Tryz.t395 Tryz.t395:=⟨ae,ae⟩
def Vu:TP 396 Tryz.t396 Tryz.t396:=⟨ae,ae⟩
def Vt:TP 398 Tryz.t398 Tryz.t398:=⟨ae,ae⟩
def Vs:TP 399 Tryz.t399 Tryz.t399:=⟨ae,ae⟩
def Vr:TP 400 Tryz.t400 Tryz.t400:=⟨ae,ae⟩
def Vq:TP 401 Tryz.t401 Tryz.t401:=⟨ae,ae⟩
def Vp:TP 402 Tryz.t402 Tryz.t402:=⟨ae,ae⟩
def Vo:TP 403 Tryz.t403 Tryz.t403:=⟨ae,ae⟩
def Vn:TP 404 Tryz.t404 Tryz.t404:=⟨ae,ae⟩
def Vl:TP 405 Tryz.t405 Tryz.t405:=⟨ae,ae⟩
def Vk:TP 406 Tryz.t405 Tryz.t406:=⟨ae,ae⟩
def Vj:TP 408 Tryz.t408 Tryz.t408:=⟨ae,ae⟩
def Vi:TP 409 Tryz.t409 Tryz.t409:=⟨ae,ae⟩
def Vh:TP 410 Tryz.t410 Tryz.t410:=⟨ae,ae⟩
def Vg:TP 411 Tryz.t411 Tryz.t411:=⟨ae,ae⟩
def Vf:TP 412 Tryz.t412 Tryz.t412:=⟨ae,ae⟩
def Ve:TP 413 Tryz.t413 Tryz.t413:=⟨ae,ae⟩
def Vd:TP 414 Tryz.t414 Tryz.t414:=⟨ae,ae⟩
def Vc:TP 415 Tryz.t414 Tryz.t415:=⟨ae,ae⟩
def Vb:TP 416 Tryz.t416 Tryz.t416:=⟨ae,ae⟩
def Va:TP 417 Tryz.t417 Tryz.t417:=⟨ae,ae⟩
def U':TP 418 Tryz.t418 Tryz.t418:=⟨ae,ae⟩
def U9:TP 419 Tryz.t418 Tryz.t419:=⟨ae,ae⟩
def U8:TP 420 Tryz.t420 Tryz.t420:=⟨ae,ae⟩
def U7:TP 421 Tryz.t421 Tryz.t421:=⟨ae,ae⟩
def U6:TP 422 Tryz.t422 Tryz.t422:=⟨ae,ae⟩
def U5:TP 423 Tryz.t423 Tryz.t423:=⟨ae,ae⟩
def U4:TP 424 Tryz.t424 Tryz.t424:=⟨ae,ae⟩
def U3:TP 426 Tryz.t426 Tryz.t426:=⟨ae,ae⟩
def U2:TP 427 Tryz.t427 Tryz.t427:=⟨ae,ae⟩
def U1:TP 428 Tryz.t428 Tryz.t428:=⟨ae,ae⟩
def U0:TP 429 Tryz.t429 Tryz.t429:=⟨ae,ae⟩
def UZ:TP 430 Tryz.t430 Tryz.t430:=⟨ae,ae⟩
def UY:TP 431 Tryz.t431 Tryz.t431:=⟨ae,ae⟩
def UX:TP 432 Tryz.t432 Tryz.t432:=⟨ae,ae⟩
def UW:TP 433 Tryz.t433 Tryz.t433:=⟨ae,ae⟩
def UU:TP 434 Tryz.t434 Tryz.t434:=⟨ae,ae⟩
def UT:TP 435 Tryz.t435 Tryz.t435:=⟨ae,ae⟩
def US:TP 436 Tryz.t436 Tryz.t436:=⟨ae,ae⟩
def UR:TP 438 Tryz.t438 Tryz.t438:=⟨ae,ae⟩
def UQ:TP 439 Tryz.t439 Tryz.t439:=⟨ae,ae⟩
def UP:TP 440 Tryz.t440 Tryz.t440:=⟨ae,ae⟩
def UO:TP 441 Tryz.t441 Tryz.t441:=⟨ae,ae⟩
def UN:TP 443 Tryz.t443 Tryz.t443:=⟨ae,ae⟩
def UM:TP 445 Tryz.t445 Tryz.t445:=⟨ae,ae⟩
def UL:TP 446 Tryz.t446 Tryz.t446:=⟨ae,ae⟩
def UK:TP 447 Tryz.t447 Tryz.t447:=⟨ae,ae⟩
def UJ:TP 448 Tryz.t448 Tryz.t448:=⟨ae,ae⟩
def UI:TP 449 Tryz.t449 Tryz.t449:=⟨ae,ae⟩
def UH:TP 450 Tryz.t450 Tryz.t450:=⟨ae,ae⟩
def UG:TP 451 Tryz.t451 Tryz.t451:=⟨ae,ae⟩
def UF:TP 452 Tryz.t452 Tryz.t452:=⟨ae,ae⟩
def UE:TP 454 Tryz.t454 Tryz.t454:=⟨ae,ae⟩
def UD:TP 455 Tryz.t455 Tryz.t455:=⟨ae,ae⟩
def UC:TP 456 Tryz.t456 Tryz.t456:=⟨ae,ae⟩
def UB:TP 457 Tryz.t457 Tryz.t457:=⟨ae,ae⟩
def UA:TP 458 Tryz.t458 Tryz.t458:=⟨ae,ae⟩
def Uz:TP 459 Tryz.t459 Tryz.t459:=⟨ae,ae⟩
def Uy:TP 460 Tryz.t459 Tryz.t460:=⟨ae,ae⟩
def Ux:TP 461 Tryz.t461 Tryz.t461:=⟨ae,ae⟩
def Uw:TP 462 Tryz.t462 Tryz.t462:=⟨ae,ae⟩
def Uv:TP 463 Tryz.t463 Tryz.t463:=⟨ae,ae⟩
def Uu:TP 464 Tryz.t464 Tryz.t464:=⟨ae,ae⟩
def Ut:TP 465 Tryz.t464 Tryz.t465:=⟨ae,ae⟩
def Us:TP 466 Tryz.t466 Tryz.t466:=⟨ae,ae⟩
def Ur:TP 467 Tryz.t467 Tryz.t467:=⟨ae,ae⟩
def Uq:TP 468 Tryz.t467 Tryz.t468:=⟨ae,ae⟩
def Up:TP 469 Tryz.t469 Tryz.t469:=⟨ae,ae⟩
def Uo:TP 471 Tryz.t471 Tryz.t471:=⟨ae,ae⟩
def Un:TP 472 Tryz.t472 Tryz.t472:=⟨ae,ae⟩
def Um:TP 473 Tryz.t473 Tryz.t473:=⟨ae,ae⟩
def Ul:TP 474 Tryz.t474 Tryz.t474:=⟨ae,ae⟩
def Uk:TP 475 Tryz.t475 Tryz.t475:=⟨ae,ae⟩
def Uj:TP 476 Tryz.t476 Tryz.t476:=⟨ae,ae⟩
def Ui:TP 477 Tryz.t477 Tryz.t477:=⟨ae,ae⟩
def Uh:TP 478 Tryz.t478 Tryz.t478:=⟨ae,ae⟩
def Ug:TP 479 Tryz.t479 Tryz.t479:=⟨ae,ae⟩
def Uf:TP 480 Tryz.t480 Tryz.t480:=⟨ae,ae⟩
def Ue:TP 482 Tryz.t482 Tryz.t482:=⟨ae,ae⟩
def Ud:TP 483 Tryz.t483 Tryz.t483:=⟨ae,ae⟩
def Uc:TP 485 Tryz.t485 Tryz.t485:=⟨ae,ae⟩
def Ub:TP 486 Tryz.t486 Tryz.t486:=⟨ae,ae⟩
def Ua:TP 487 Tryz.t487 Tryz.t487:=⟨ae,ae⟩
def T':TP 489 Tryz.t489 Tryz.t489:=⟨ae,ae⟩
def T9:TP 490 Tryz.t490 Tryz.t490:=⟨ae,ae⟩
def T8:TP 491 Tryz.t491 Tryz.t491:=⟨ae,ae⟩
def T7:TP 492 Tryz.t492 Tryz.t492:=⟨ae,ae⟩
def T6:TP 493 Tryz.t493 Tryz.t493:=⟨ae,ae⟩
def T5:TP 494 Tryz.t494 Tryz.t494:=⟨ae,ae⟩
def T4:TP 495 Tryz.t495 Tryz.t495:=⟨ae,ae⟩
def T3:TP 496 Tryz.t496 Tryz.t496:=⟨ae,ae⟩
def T2:TP 497 Tryz.t497 Tryz.t497:=⟨ae,ae⟩
def T1:TP 498 Tryz.t498 Tryz.t498:=⟨ae,ae⟩
def TZ:TP 499 Tryz.t499 Tryz.t499:=⟨ae,ae⟩
def TY:TP 500 Tryz.t500 Tryz.t500:=⟨ae,ae⟩
def TX:TP 501 Tryz.t501 Tryz.t501:=⟨ae,ae⟩
def TW:TP 502 Tryz.t502 Tryz.t502:=⟨ae,ae⟩
def TV:TP 503 Tryz.t503 Tryz.t503:=⟨ae,ae⟩
def TU:TP 504 Tryz.t504 Tryz.t504:=⟨ae,ae⟩
def TT:TP 505 Tryz.t505 Tryz.t505:=⟨ae,ae⟩
def TS:TP 506 Tryz.t506 Tryz.t506:=⟨ae,ae⟩
def TR:TP 507 Tryz.t507 Tryz.t507:=⟨ae,ae⟩
def TQ:TP 508 Tryz.t508 Tryz.t508:=⟨ae,ae⟩
def TO:TP 509 Tryz.t509 Tryz.t509:=⟨ae,ae⟩
def TN:TP 510 Tryz.t510 Tryz.t510:=⟨ae,ae⟩
def TM:TP 511 Tryz.t511 Tryz.t511:=⟨ae,ae⟩
def TL:TP 512 Tryz.t512 Tryz.t512:=⟨ae,ae⟩
def TK:TP 513 Tryz.t513 Tryz.t513:=⟨ae,ae⟩
def TJ:TP 514 Tryz.t514 Tryz.t514:=⟨ae,ae⟩
def TI:TP 515 Tryz.t515 Tryz.t515:=⟨ae,ae⟩
def TH:TP 516 Tryz.t516 Tryz.t516:=⟨ae,ae⟩
def TG:TP 517 Tryz.t517 Tryz.t517:=⟨ae,ae⟩
def TF:TP 518 Tryz.t518 Tryz.t518:=⟨ae,ae⟩
def TE:TP 519 Tryz.t519 Tryz.t519:=⟨ae,ae⟩
def TD:TP 520 Tryz.t3 Tryz.t520:=⟨ae,ae⟩
def TB:TP 522 Tryz.t522 Tryz.t522:=⟨ae,ae⟩
def TA:TP 523 Tryz.t523 Tryz.t523:=⟨ae,ae⟩
def Tz:TP 524 Tryz.t524 Tryz.t524:=⟨ae,ae⟩
def Tx:TP 525 Tryz.t525 Tryz.t525:=⟨ae,ae⟩
def Tw:TP 526 Tryz.t526 Tryz.t526:=⟨ae,ae⟩
def Tv:TP 527 Tryz.t527 Tryz.t527:=⟨ae,ae⟩
def Tu:TP 528 Tryz.t528 Tryz.t528:=⟨ae,ae⟩
def Tt:TP 529 Tryz.t529 Tryz.t529:=⟨ae,ae⟩
def Ts:TP 530 Tryz.t530 Tryz.t530:=⟨ae,ae⟩
def Tq:TP 531 Tryz.t531 Tryz.t531:=⟨ae,ae⟩
def Tp:TP 532 Tryz.t532 Tryz.t532:=⟨ae,ae⟩
def To:TP 533 Tryz.t533 Tryz.t533:=⟨ae,ae⟩
def Tn:TP 534 Tryz.t533 Tryz.t534:=⟨ae,ae⟩
def Tm:TP 535 Tryz.t535 Tryz.t535:=⟨ae,ae⟩
def Tl:TP 536 Tryz.t536 Tryz.t536:=⟨ae,ae⟩
def Tj:TP 537 Tryz.t537 Tryz.t537:=⟨ae,ae⟩
def Ti:TP 538 Tryz.t538 Tryz.t538:=⟨ae,ae⟩
def Th:TP 539 Tryz.t539 Tryz.t539:=⟨ae,ae⟩
def Tg:TP 540 Tryz.t540 Tryz.t540:=⟨ae,ae⟩
def Tf:TP 541 Tryz.t541 Tryz.t541:=⟨ae,ae⟩
def Te:TP 542 Tryz.t542 Tryz.t542:=⟨ae,ae⟩
def Td:TP 543 Tryz.t543 Tryz.t543:=⟨ae,ae⟩
def Tc:TP 544 Tryz.t543 Tryz.t544:=⟨ae,ae⟩
def Tb:TP 545 Tryz.t545 Tryz.t545:=⟨ae,ae⟩
def Ta:TP 546 Tryz.t546 Tryz.t546:=⟨ae,ae⟩
def S9:TP 547 Tryz.t547 Tryz.t547:=⟨ae,ae⟩
def S8:TP 548 Tryz.t548 Tryz.t548:=⟨ae,ae⟩
def S7:TP 550 Tryz.t550 Tryz.t550:=⟨ae,ae⟩
def S6:TP 551 Tryz.t551 Tryz.t551:=⟨ae,ae⟩
def S5:TP 552 Tryz.t552 Tryz.t552:=⟨ae,ae⟩
def S4:TP 553 Tryz.t553 Tryz.t553:=⟨ae,ae⟩
def S0:TP 554 Tryz.t554 Tryz.t554:=⟨ae,ae⟩
def SZ:TP 555 Tryz.t555 Tryz.t555:=⟨ae,ae⟩
def SY:TP 556 Tryz.t556 Tryz.t556:=⟨ae,ae⟩
def SX:TP 557 Tryz.t557 Tryz.t557:=⟨ae,ae⟩
def SV:TP 558 Tryz.t558 Tryz.t558:=⟨ae,ae⟩
def SU:TP 559 Tryz.t559 Tryz.t559:=⟨ae,ae⟩
def SS:TP 560 Tryz.t560 Tryz.t560:=⟨ae,ae⟩
def SR:TP 561 Tryz.t561 Tryz.t561:=⟨ae,ae⟩
def SQ:TP 562 Tryz.t562 Tryz.t562:=⟨ae,ae⟩
def SP:TP 563 Tryz.t563 Tryz.t563:=⟨ae,ae⟩
def SO:TP 564 Tryz.t564 Tryz.t564:=⟨ae,ae⟩
def SN:TP 565 Tryz.t565 Tryz.t565:=⟨ae,ae⟩
def SM:TP 566 Tryz.t566 Tryz.t566:=⟨ae,ae⟩
def SK:TP 567 Tryz.t567 Tryz.t567:=⟨ae,ae⟩
def SH:TP 568 Tryz.t568 Tryz.t568:=⟨ae,ae⟩
def SG:TP 569 Tryz.t569 Tryz.t569:=⟨ae,ae⟩
def SF:TP 570 Tryz.t570 Tryz.t570:=⟨ae,ae⟩
def SE:TP 571 Tryz.t571 Tryz.t571:=⟨ae,ae⟩
def SD:TP 572 Tryz.t572 Tryz.t572:=⟨ae,ae⟩
def SC:TP 573 Tryz.t573 Tryz.t573:=⟨ae,ae⟩
def SB:TP 574 Tryz.t574 Tryz.t574:=⟨ae,ae⟩
def SA:TP 575 Tryz.t575 Tryz.t575:=⟨ae,ae⟩
def Sz:TP 576 Tryz.t576 Tryz.t576:=⟨ae,ae⟩
def Sy:TP 577 Tryz.t577 Tryz.t577:=⟨ae,ae⟩
def Sw:TP 578 Tryz.t578 Tryz.t578:=⟨ae,ae⟩
def Sv:TP 579 Tryz.t579 Tryz.t579:=⟨ae,ae⟩
def Su:TP 580 Tryz.t38 Tryz.t580:=⟨ae,ae⟩
def Ss:TP 581 Tryz.t581 Tryz.t581:=⟨ae,ae⟩
def Sr:TP 582 Tryz.t582 Tryz.t582:=⟨ae,ae⟩
def Sq:TP 583 Tryz.t583 Tryz.t583:=⟨ae,ae⟩
def Sp:TP 584 Tryz.t584 Tryz.t584:=⟨ae,ae⟩
def Sn:TP 586 Tryz.t586 Tryz.t586:=⟨ae,ae⟩
def Sm:TP 587 Tryz.t587 Tryz.t587:=⟨ae,ae⟩
def Sl:TP 588 Tryz.t588 Tryz.t588:=⟨ae,ae⟩
def Sk:TP 589 Tryz.t589 Tryz.t589:=⟨ae,ae⟩
def Sj:TP 590 Tryz.t590 Tryz.t590:=⟨ae,ae⟩
def Si:TP 591 Tryz.t591 Tryz.t591:=⟨ae,ae⟩
def Sh:TP 592 Tryz.t591 Tryz.t592:=⟨ae,ae⟩
def Sg:TP 593 Tryz.t593 Tryz.t593:=⟨ae,ae⟩
def Sf:TP 594 Tryz.t594 Tryz.t594:=⟨ae,ae⟩
def Se:TP 595 Tryz.t595 Tryz.t595:=⟨ae,ae⟩
def Sd:TP 596 Tryz.t596 Tryz.t596:=⟨ae,ae⟩
def Sc:TP 597 Tryz.t597 Tryz.t597:=⟨ae,ae⟩
def Sb:TP 598 Tryz.t598 Tryz.t598:=⟨ae,ae⟩
def Sa:TP 599 Tryz.t599 Tryz.t599:=⟨ae,ae⟩
def R9:TP 600 Tryz.t600 Tryz.t600:=⟨ae,ae⟩
def R8:TP 601 Tryz.t601 Tryz.t601:=⟨ae,ae⟩
def R7:TP 602 Tryz.t602 Tryz.t602:=⟨ae,ae⟩
def R6:TP 603 Tryz.t603 Tryz.t603:=⟨ae,ae⟩
def R5:TP 604 Tryz.t604 Tryz.t604:=⟨ae,ae⟩
def R4:TP 605 Tryz.t605 Tryz.t605:=⟨ae,ae⟩
def R3:TP 606 Tryz.t606 Tryz.t606:=⟨ae,ae⟩
def R0:TP 607 Tryz.t607 Tryz.t607:=⟨ae,ae⟩
def RZ:TP 608 Tryz.t608 Tryz.t608:=⟨ae,ae⟩
def RY:TP 609 Tryz.t609 Tryz.t609:=⟨ae,ae⟩
def RX:TP 610 Tryz.t610 Tryz.t610:=⟨ae,ae⟩
def RW:TP 611 Tryz.t611 Tryz.t611:=⟨ae,ae⟩
def RV:TP 612 Tryz.t612 Tryz.t612:=⟨ae,ae⟩
def RU:TP 613 Tryz.t613 Tryz.t613:=⟨ae,ae⟩
def RT:TP 614 Tryz.t614 Tryz.t614:=⟨ae,ae⟩
def RS:TP 615 Tryz.t615 Tryz.t615:=⟨ae,ae⟩
def RR:TP 616 Tryz.t616 Tryz.t616:=⟨ae,ae⟩
def RQ:TP 617 Tryz.t617 Tryz.t617:=⟨ae,ae⟩
def RP:TP 618 Tryz.t618 Tryz.t618:=⟨ae,ae⟩
def RO:TP 619 Tryz.t619 Tryz.t619:=⟨ae,ae⟩
def RN:TP 621 Tryz.t621 Tryz.t621:=⟨ae,ae⟩
def RM:TP 623 Tryz.t623 Tryz.t623:=⟨ae,ae⟩
def RL:TP 624 Tryz.t624 Tryz.t624:=⟨ae,ae⟩
def RK:TP 625 Tryz.t625 Tryz.t625:=⟨ae,ae⟩
def RJ:TP 626 Tryz.t626 Tryz.t626:=⟨ae,ae⟩
def RI:TP 627 Tryz.t627 Tryz.t627:=⟨ae,ae⟩
def RH:TP 628 Tryz.t628 Tryz.t628:=⟨ae,ae⟩
def RG:TP 629 Tryz.t629 Tryz.t629:=⟨ae,ae⟩
def RF:TP 630 Tryz.t630 Tryz.t630:=⟨ae,ae⟩
def RE:TP 631 Tryz.t631 Tryz.t631:=⟨ae,ae⟩
def RD:TP 632 Tryz.t632 Tryz.t632:=⟨ae,ae⟩
def RC:TP 633 Tryz.t633 Tryz.t633:=⟨ae,ae⟩
def RB:TP 634 Tryz.t634 Tryz.t634:=⟨ae,ae⟩
def RA:TP 635 Tryz.t635 Tryz.t635:=⟨ae,ae⟩
def Rz:TP 636 Tryz.t636 Tryz.t636:=⟨ae,ae⟩
def Ry:TP 637 Tryz.t637 Tryz.t637:=⟨ae,ae⟩
def Rx:TP 638 Tryz.t638 Tryz.t638:=⟨ae,ae⟩
def Rw:TP 639 Tryz.t639 Tryz.t639:=⟨ae,ae⟩
def Rv:TP 640 Tryz.t640 Tryz.t640:=⟨ae,ae⟩
def Ru:TP 641 Tryz.t640 Tryz.t641:=⟨ae,ae⟩
def Rs:TP 642 Tryz.t642 Tryz.t642:=⟨ae,ae⟩
def Rr:TP 643 Tryz.t643 Tryz.t643:=⟨ae,ae⟩
def Rq:TP 644 Tryz.t643 Tryz.t644:=⟨ae,ae⟩
def Rp:TP 645 Tryz.t5 Tryz.t645:=⟨ae,ae⟩
def Ro:TP 646 Tryz.t5 Tryz.t646:=⟨ae,ae⟩
def Rn:TP 647 Tryz.t647 Tryz.t647:=⟨ae,ae⟩
def Rm:TP 648 Tryz.t648 Tryz.t648:=⟨ae,ae⟩
def Rl:TP 649 Tryz.t21 Tryz.t649:=⟨ae,ae⟩
def Rk:TP 650 Tryz.t21 Tryz.t650:=⟨ae,ae⟩
def Rj:TP 651 Tryz.t651 Tryz.t651:=⟨ae,ae⟩
def Ri:TP 652 Tryz.t651 Tryz.t652:=⟨ae,ae⟩
def Rh:TP 653 Tryz.t653 Tryz.t653:=⟨ae,ae⟩
noncomputable def aY:Tr:=(.node 329 ⟨Tryz.t329.desc,Tryz.t329⟩ (.node 169 ⟨Tryz.t169.desc,Tryz.t169⟩ (.node 79 ⟨Tryz.t79.desc,Tryz.t79⟩ (.node 39 ⟨Tryz.t39.desc,Tryz.t39⟩ (.node 19 ⟨Tryz.t18.desc,Tryz.t19⟩ (.node 10 ⟨Tryz.t9.desc,Tryz.t10⟩ (.node 5 ⟨Tryz.t5.desc,Tryz.t5⟩ (.node 3 ⟨Tryz.t3.desc,Tryz.t3⟩ (.node 2 ⟨Tryz.t2.desc,Tryz.t2⟩ (.node 1 ⟨Tryz.t1.desc,Tryz.t1⟩ .leaf .leaf) .leaf) (.node 4 ⟨Tryz.t4.desc,Tryz.t4⟩ .leaf .leaf)) (.node 8 ⟨Tryz.t7.desc,Tryz.t8⟩ (.node 7 ⟨Tryz.t7.desc,Tryz.t7⟩ (.node 6 ⟨Tryz.t5.desc,Tryz.t6⟩ .leaf .leaf) .leaf) (.node 9 ⟨Tryz.t9.desc,Tryz.t9⟩ .leaf .leaf))) (.node 15 ⟨Tryz.t15.desc,Tryz.t15⟩ (.node 13 ⟨Tryz.t13.desc,Tryz.t13⟩ (.node 12 ⟨Tryz.t12.desc,Tryz.t12⟩ (.node 11 ⟨Tryz.t9.desc,Tryz.t11⟩ .leaf .leaf) .leaf) (.node 14 ⟨Tryz.t13.desc,Tryz.t14⟩ .leaf .leaf)) (.node 17 ⟨Tryz.t17.desc,Tryz.t17⟩ (.node 16 ⟨Tryz.t16.desc,Tryz.t16⟩ .leaf .leaf) (.node 18 ⟨Tryz.t18.desc,Tryz.t18⟩ .leaf .leaf)))) (.node 30 ⟨Tryz.t29.desc,Tryz.t30⟩ (.node 24 ⟨Tryz.t24.desc,Tryz.t24⟩ (.node 22 ⟨Tryz.t22.desc,Tryz.t22⟩ (.node 21 ⟨Tryz.t21.desc,Tryz.t21⟩ (.node 20 ⟨Tryz.t20.desc,Tryz.t20⟩ .leaf .leaf) .leaf) (.node 23 ⟨Tryz.t23.desc,Tryz.t23⟩ .leaf .leaf)) (.node 28 ⟨Tryz.t28.desc,Tryz.t28⟩ (.node 26 ⟨Tryz.t3.desc,Tryz.t26⟩ (.node 25 ⟨Tryz.t25.desc,Tryz.t25⟩ .leaf .leaf) .leaf) (.node 29 ⟨Tryz.t29.desc,Tryz.t29⟩ .leaf .leaf))) (.node 35 ⟨Tryz.t34.desc,Tryz.t35⟩ (.node 33 ⟨Tryz.t33.desc,Tryz.t33⟩ (.node 32 ⟨Tryz.t31.desc,Tryz.t32⟩ (.node 31 ⟨Tryz.t31.desc,Tryz.t31⟩ .leaf .leaf) .leaf) (.node 34 ⟨Tryz.t34.desc,Tryz.t34⟩ .leaf .leaf)) (.node 37 ⟨Tryz.t37.desc,Tryz.t37⟩ (.node 36 ⟨Tryz.t36.desc,Tryz.t36⟩ .leaf .leaf) (.node 38 ⟨Tryz.t38.desc,Tryz.t38⟩ .leaf .leaf))))) (.node 59 ⟨Tryz.t59.desc,Tryz.t59⟩ (.node 49 ⟨Tryz.t49.desc,Tryz.t49⟩ (.node 44 ⟨Tryz.t44.desc,Tryz.t44⟩ (.node 42 ⟨Tryz.t42.desc,Tryz.t42⟩ (.node 41 ⟨Tryz.t41.desc,Tryz.t41⟩ (.node 40 ⟨Tryz.t39.desc,Tryz.t40⟩ .leaf .leaf) .leaf) (.node 43 ⟨Tryz.t43.desc,Tryz.t43⟩ .leaf .leaf)) (.node 47 ⟨Tryz.t47.desc,Tryz.t47⟩ (.node 46 ⟨Tryz.t46.desc,Tryz.t46⟩ (.node 45 ⟨Tryz.t45.desc,Tryz.t45⟩ .leaf .leaf) .leaf) (.node 48 ⟨Tryz.t48.desc,Tryz.t48⟩ .leaf .leaf))) (.node 54 ⟨Tryz.t54.desc,Tryz.t54⟩ (.node 52 ⟨Tryz.t52.desc,Tryz.t52⟩ (.node 51 ⟨Tryz.t51.desc,Tryz.t51⟩ (.node 50 ⟨Tryz.t50.desc,Tryz.t50⟩ .leaf .leaf) .leaf) (.node 53 ⟨Tryz.t53.desc,Tryz.t53⟩ .leaf .leaf)) (.node 56 ⟨Tryz.t56.desc,Tryz.t56⟩ (.node 55 ⟨Tryz.t55.desc,Tryz.t55⟩ .leaf .leaf) (.node 57 ⟨Tryz.t56.desc,Tryz.t57⟩ .leaf .leaf)))) (.node 70 ⟨Tryz.t70.desc,Tryz.t70⟩ (.node 66 ⟨Tryz.t66.desc,Tryz.t66⟩ (.node 64 ⟨Tryz.t64.desc,Tryz.t64⟩ (.node 62 ⟨Tryz.t62.desc,Tryz.t62⟩ (.node 61 ⟨Tryz.t61.desc,Tryz.t61⟩ .leaf .leaf) .leaf) (.node 65 ⟨Tryz.t65.desc,Tryz.t65⟩ .leaf .leaf)) (.node 68 ⟨Tryz.t68.desc,Tryz.t68⟩ (.node 67 ⟨Tryz.t66.desc,Tryz.t67⟩ .leaf .leaf) (.node 69 ⟨Tryz.t69.desc,Tryz.t69⟩ .leaf .leaf))) (.node 75 ⟨Tryz.t75.desc,Tryz.t75⟩ (.node 73 ⟨Tryz.t73.desc,Tryz.t73⟩ (.node 72 ⟨Tryz.t72.desc,Tryz.t72⟩ (.node 71 ⟨Tryz.t71.desc,Tryz.t71⟩ .leaf .leaf) .leaf) (.node 74 ⟨Tryz.t74.desc,Tryz.t74⟩ .leaf .leaf)) (.node 77 ⟨Tryz.t77.desc,Tryz.t77⟩ (.node 76 ⟨Tryz.t76.desc,Tryz.t76⟩ .leaf .leaf) (.node 78 ⟨Tryz.t78.desc,Tryz.t78⟩ .leaf .leaf)))))) (.node 121 ⟨Tryz.t121.desc,Tryz.t121⟩ (.node 99 ⟨Tryz.t99.desc,Tryz.t99⟩ (.node 90 ⟨Tryz.t89.desc,Tryz.t90⟩ (.node 84 ⟨Tryz.t84.desc,Tryz.t84⟩ (.node 82 ⟨Tryz.t82.desc,Tryz.t82⟩ (.node 81 ⟨Tryz.t81.desc,Tryz.t81⟩ (.node 80 ⟨Tryz.t80.desc,Tryz.t80⟩ .leaf .leaf) .leaf) (.node 83 ⟨Tryz.t83.desc,Tryz.t83⟩ .leaf .leaf)) (.node 88 ⟨Tryz.t88.desc,Tryz.t88⟩ (.node 87 ⟨Tryz.t87.desc,Tryz.t87⟩ (.node 86 ⟨Tryz.t86.desc,Tryz.t86⟩ .leaf .leaf) .leaf) (.node 89 ⟨Tryz.t89.desc,Tryz.t89⟩ .leaf .leaf))) (.node 95 ⟨Tryz.t95.desc,Tryz.t95⟩ (.node 93 ⟨Tryz.t93.desc,Tryz.t93⟩ (.node 92 ⟨Tryz.t91.desc,Tryz.t92⟩ (.node 91 ⟨Tryz.t91.desc,Tryz.t91⟩ .leaf .leaf) .leaf) (.node 94 ⟨Tryz.t93.desc,Tryz.t94⟩ .leaf .leaf)) (.node 97 ⟨Tryz.t97.desc,Tryz.t97⟩ (.node 96 ⟨Tryz.t96.desc,Tryz.t96⟩ .leaf .leaf) (.node 98 ⟨Tryz.t97.desc,Tryz.t98⟩ .leaf .leaf)))) (.node 112 ⟨Tryz.t112.desc,Tryz.t112⟩ (.node 106 ⟨Tryz.t106.desc,Tryz.t106⟩ (.node 104 ⟨Tryz.t104.desc,Tryz.t104⟩ (.node 103 ⟨Tryz.t103.desc,Tryz.t103⟩ (.node 101 ⟨Tryz.t101.desc,Tryz.t101⟩ .leaf .leaf) .leaf) (.node 105 ⟨Tryz.t104.desc,Tryz.t105⟩ .leaf .leaf)) (.node 109 ⟨Tryz.t109.desc,Tryz.t109⟩ (.node 107 ⟨Tryz.t107.desc,Tryz.t107⟩ .leaf .leaf) (.node 110 ⟨Tryz.t110.desc,Tryz.t110⟩ .leaf .leaf))) (.node 117 ⟨Tryz.t117.desc,Tryz.t117⟩ (.node 115 ⟨Tryz.t115.desc,Tryz.t115⟩ (.node 114 ⟨Tryz.t114.desc,Tryz.t114⟩ (.node 113 ⟨Tryz.t113.desc,Tryz.t113⟩ .leaf .leaf) .leaf) (.node 116 ⟨Tryz.t116.desc,Tryz.t116⟩ .leaf .leaf)) (.node 119 ⟨Tryz.t119.desc,Tryz.t119⟩ (.node 118 ⟨Tryz.t118.desc,Tryz.t118⟩ .leaf .leaf) (.node 120 ⟨Tryz.t120.desc,Tryz.t120⟩ .leaf .leaf))))) (.node 145 ⟨Tryz.t145.desc,Tryz.t145⟩ (.node 131 ⟨Tryz.t130.desc,Tryz.t131⟩ (.node 126 ⟨Tryz.t126.desc,Tryz.t126⟩ (.node 124 ⟨Tryz.t124.desc,Tryz.t124⟩ (.node 123 ⟨Tryz.t123.desc,Tryz.t123⟩ (.node 122 ⟨Tryz.t122.desc,Tryz.t122⟩ .leaf .leaf) .leaf) (.node 125 ⟨Tryz.t125.desc,Tryz.t125⟩ .leaf .leaf)) (.node 129 ⟨Tryz.t129.desc,Tryz.t129⟩ (.node 128 ⟨Tryz.t128.desc,Tryz.t128⟩ (.node 127 ⟨Tryz.t127.desc,Tryz.t127⟩ .leaf .leaf) .leaf) (.node 130 ⟨Tryz.t130.desc,Tryz.t130⟩ .leaf .leaf))) (.node 137 ⟨Tryz.t137.desc,Tryz.t137⟩ (.node 134 ⟨Tryz.t133.desc,Tryz.t134⟩ (.node 133 ⟨Tryz.t133.desc,Tryz.t133⟩ (.node 132 ⟨Tryz.t132.desc,Tryz.t132⟩ .leaf .leaf) .leaf) (.node 136 ⟨Tryz.t136.desc,Tryz.t136⟩ .leaf .leaf)) (.node 141 ⟨Tryz.t141.desc,Tryz.t141⟩ (.node 139 ⟨Tryz.t139.desc,Tryz.t139⟩ .leaf .leaf) (.node 143 ⟨Tryz.t143.desc,Tryz.t143⟩ .leaf .leaf)))) (.node 156 ⟨Tryz.t156.desc,Tryz.t156⟩ (.node 151 ⟨Tryz.t151.desc,Tryz.t151⟩ (.node 149 ⟨Tryz.t149.desc,Tryz.t149⟩ (.node 148 ⟨Tryz.t148.desc,Tryz.t148⟩ (.node 146 ⟨Tryz.t146.desc,Tryz.t146⟩ .leaf .leaf) .leaf) (.node 150 ⟨Tryz.t150.desc,Tryz.t150⟩ .leaf .leaf)) (.node 153 ⟨Tryz.t153.desc,Tryz.t153⟩ (.node 152 ⟨Tryz.t152.desc,Tryz.t152⟩ .leaf .leaf) (.node 154 ⟨Tryz.t153.desc,Tryz.t154⟩ .leaf .leaf))) (.node 163 ⟨Tryz.t163.desc,Tryz.t163⟩ (.node 160 ⟨Tryz.t159.desc,Tryz.t160⟩ (.node 159 ⟨Tryz.t159.desc,Tryz.t159⟩ (.node 158 ⟨Tryz.t158.desc,Tryz.t158⟩ .leaf .leaf) .leaf) (.node 161 ⟨Tryz.t161.desc,Tryz.t161⟩ .leaf .leaf)) (.node 166 ⟨Tryz.t166.desc,Tryz.t166⟩ (.node 165 ⟨Tryz.t165.desc,Tryz.t165⟩ .leaf .leaf) (.node 167 ⟨Tryz.t167.desc,Tryz.t167⟩ .leaf .leaf))))))) (.node 252 ⟨Tryz.t252.desc,Tryz.t252⟩ (.node 213 ⟨Tryz.t213.desc,Tryz.t213⟩ (.node 194 ⟨Tryz.t194.desc,Tryz.t194⟩ (.node 181 ⟨Tryz.t181.desc,Tryz.t181⟩ (.node 175 ⟨Tryz.t174.desc,Tryz.t175⟩ (.node 173 ⟨Tryz.t173.desc,Tryz.t173⟩ (.node 172 ⟨Tryz.t172.desc,Tryz.t172⟩ (.node 170 ⟨Tryz.t170.desc,Tryz.t170⟩ .leaf .leaf) .leaf) (.node 174 ⟨Tryz.t174.desc,Tryz.t174⟩ .leaf .leaf)) (.node 179 ⟨Tryz.t178.desc,Tryz.t179⟩ (.node 178 ⟨Tryz.t178.desc,Tryz.t178⟩ (.node 177 ⟨Tryz.t177.desc,Tryz.t177⟩ .leaf .leaf) .leaf) (.node 180 ⟨Tryz.t180.desc,Tryz.t180⟩ .leaf .leaf))) (.node 188 ⟨Tryz.t187.desc,Tryz.t188⟩ (.node 186 ⟨Tryz.t186.desc,Tryz.t186⟩ (.node 184 ⟨Tryz.t184.desc,Tryz.t184⟩ (.node 182 ⟨Tryz.t181.desc,Tryz.t182⟩ .leaf .leaf) .leaf) (.node 187 ⟨Tryz.t187.desc,Tryz.t187⟩ .leaf .leaf)) (.node 192 ⟨Tryz.t192.desc,Tryz.t192⟩ (.node 189 ⟨Tryz.t189.desc,Tryz.t189⟩ .leaf .leaf) (.node 193 ⟨Tryz.t193.desc,Tryz.t193⟩ .leaf .leaf)))) (.node 203 ⟨Tryz.t203.desc,Tryz.t203⟩ (.node 199 ⟨Tryz.t198.desc,Tryz.t199⟩ (.node 197 ⟨Tryz.t197.desc,Tryz.t197⟩ (.node 196 ⟨Tryz.t196.desc,Tryz.t196⟩ (.node 195 ⟨Tryz.t194.desc,Tryz.t195⟩ .leaf .leaf) .leaf) (.node 198 ⟨Tryz.t198.desc,Tryz.t198⟩ .leaf .leaf)) (.node 201 ⟨Tryz.t201.desc,Tryz.t201⟩ (.node 200 ⟨Tryz.t200.desc,Tryz.t200⟩ .leaf .leaf) (.node 202 ⟨Tryz.t202.desc,Tryz.t202⟩ .leaf .leaf))) (.node 208 ⟨Tryz.t208.desc,Tryz.t208⟩ (.node 206 ⟨Tryz.t206.desc,Tryz.t206⟩ (.node 205 ⟨Tryz.t205.desc,Tryz.t205⟩ (.node 204 ⟨Tryz.t203.desc,Tryz.t204⟩ .leaf .leaf) .leaf) (.node 207 ⟨Tryz.t207.desc,Tryz.t207⟩ .leaf .leaf)) (.node 210 ⟨Tryz.t210.desc,Tryz.t210⟩ (.node 209 ⟨Tryz.t208.desc,Tryz.t209⟩ .leaf .leaf) (.node 212 ⟨Tryz.t212.desc,Tryz.t212⟩ .leaf .leaf))))) (.node 233 ⟨Tryz.t233.desc,Tryz.t233⟩ (.node 223 ⟨Tryz.t223.desc,Tryz.t223⟩ (.node 218 ⟨Tryz.t218.desc,Tryz.t218⟩ (.node 216 ⟨Tryz.t215.desc,Tryz.t216⟩ (.node 215 ⟨Tryz.t215.desc,Tryz.t215⟩ (.node 214 ⟨Tryz.t214.desc,Tryz.t214⟩ .leaf .leaf) .leaf) (.node 217 ⟨Tryz.t217.desc,Tryz.t217⟩ .leaf .leaf)) (.node 221 ⟨Tryz.t220.desc,Tryz.t221⟩ (.node 220 ⟨Tryz.t220.desc,Tryz.t220⟩ (.node 219 ⟨Tryz.t219.desc,Tryz.t219⟩ .leaf .leaf) .leaf) (.node 222 ⟨Tryz.t222.desc,Tryz.t222⟩ .leaf .leaf))) (.node 228 ⟨Tryz.t227.desc,Tryz.t228⟩ (.node 226 ⟨Tryz.t226.desc,Tryz.t226⟩ (.node 225 ⟨Tryz.t225.desc,Tryz.t225⟩ (.node 224 ⟨Tryz.t223.desc,Tryz.t224⟩ .leaf .leaf) .leaf) (.node 227 ⟨Tryz.t227.desc,Tryz.t227⟩ .leaf .leaf)) (.node 230 ⟨Tryz.t230.desc,Tryz.t230⟩ (.node 229 ⟨Tryz.t229.desc,Tryz.t229⟩ .leaf .leaf) (.node 232 ⟨Tryz.t232.desc,Tryz.t232⟩ .leaf .leaf)))) (.node 242 ⟨Tryz.t242.desc,Tryz.t242⟩ (.node 238 ⟨Tryz.t237.desc,Tryz.t238⟩ (.node 236 ⟨Tryz.t236.desc,Tryz.t236⟩ (.node 235 ⟨Tryz.t235.desc,Tryz.t235⟩ (.node 234 ⟨Tryz.t234.desc,Tryz.t234⟩ .leaf .leaf) .leaf) (.node 237 ⟨Tryz.t237.desc,Tryz.t237⟩ .leaf .leaf)) (.node 240 ⟨Tryz.t240.desc,Tryz.t240⟩ (.node 239 ⟨Tryz.t239.desc,Tryz.t239⟩ .leaf .leaf) (.node 241 ⟨Tryz.t240.desc,Tryz.t241⟩ .leaf .leaf))) (.node 248 ⟨Tryz.t248.desc,Tryz.t248⟩ (.node 246 ⟨Tryz.t246.desc,Tryz.t246⟩ (.node 245 ⟨Tryz.t245.desc,Tryz.t245⟩ (.node 243 ⟨Tryz.t243.desc,Tryz.t243⟩ .leaf .leaf) .leaf) (.node 247 ⟨Tryz.t246.desc,Tryz.t247⟩ .leaf .leaf)) (.node 250 ⟨Tryz.t250.desc,Tryz.t250⟩ (.node 249 ⟨Tryz.t249.desc,Tryz.t249⟩ .leaf .leaf) (.node 251 ⟨Tryz.t251.desc,Tryz.t251⟩ .leaf .leaf)))))) (.node 290 ⟨Tryz.t290.desc,Tryz.t290⟩ (.node 272 ⟨Tryz.t272.desc,Tryz.t272⟩ (.node 263 ⟨Tryz.t263.desc,Tryz.t263⟩ (.node 257 ⟨Tryz.t257.desc,Tryz.t257⟩ (.node 255 ⟨Tryz.t255.desc,Tryz.t255⟩ (.node 254 ⟨Tryz.t254.desc,Tryz.t254⟩ (.node 253 ⟨Tryz.t253.desc,Tryz.t253⟩ .leaf .leaf) .leaf) (.node 256 ⟨Tryz.t256.desc,Tryz.t256⟩ .leaf .leaf)) (.node 261 ⟨Tryz.t260.desc,Tryz.t261⟩ (.node 260 ⟨Tryz.t260.desc,Tryz.t260⟩ (.node 258 ⟨Tryz.t258.desc,Tryz.t258⟩ .leaf .leaf) .leaf) (.node 262 ⟨Tryz.t262.desc,Tryz.t262⟩ .leaf .leaf))) (.node 268 ⟨Tryz.t268.desc,Tryz.t268⟩ (.node 266 ⟨Tryz.t266.desc,Tryz.t266⟩ (.node 265 ⟨Tryz.t265.desc,Tryz.t265⟩ (.node 264 ⟨Tryz.t264.desc,Tryz.t264⟩ .leaf .leaf) .leaf) (.node 267 ⟨Tryz.t266.desc,Tryz.t267⟩ .leaf .leaf)) (.node 270 ⟨Tryz.t270.desc,Tryz.t270⟩ (.node 269 ⟨Tryz.t269.desc,Tryz.t269⟩ .leaf .leaf) (.node 271 ⟨Tryz.t270.desc,Tryz.t271⟩ .leaf .leaf)))) (.node 281 ⟨Tryz.t281.desc,Tryz.t281⟩ (.node 277 ⟨Tryz.t277.desc,Tryz.t277⟩ (.node 275 ⟨Tryz.t275.desc,Tryz.t275⟩ (.node 274 ⟨Tryz.t274.desc,Tryz.t274⟩ (.node 273 ⟨Tryz.t273.desc,Tryz.t273⟩ .leaf .leaf) .leaf) (.node 276 ⟨Tryz.t275.desc,Tryz.t276⟩ .leaf .leaf)) (.node 279 ⟨Tryz.t279.desc,Tryz.t279⟩ (.node 278 ⟨Tryz.t277.desc,Tryz.t278⟩ .leaf .leaf) (.node 280 ⟨Tryz.t280.desc,Tryz.t280⟩ .leaf .leaf))) (.node 286 ⟨Tryz.t286.desc,Tryz.t286⟩ (.node 284 ⟨Tryz.t284.desc,Tryz.t284⟩ (.node 283 ⟨Tryz.t283.desc,Tryz.t283⟩ (.node 282 ⟨Tryz.t282.desc,Tryz.t282⟩ .leaf .leaf) .leaf) (.node 285 ⟨Tryz.t285.desc,Tryz.t285⟩ .leaf .leaf)) (.node 288 ⟨Tryz.t288.desc,Tryz.t288⟩ (.node 287 ⟨Tryz.t287.desc,Tryz.t287⟩ .leaf .leaf) (.node 289 ⟨Tryz.t289.desc,Tryz.t289⟩ .leaf .leaf))))) (.node 309 ⟨Tryz.t309.desc,Tryz.t309⟩ (.node 300 ⟨Tryz.t300.desc,Tryz.t300⟩ (.node 295 ⟨Tryz.t295.desc,Tryz.t295⟩ (.node 293 ⟨Tryz.t293.desc,Tryz.t293⟩ (.node 292 ⟨Tryz.t292.desc,Tryz.t292⟩ (.node 291 ⟨Tryz.t291.desc,Tryz.t291⟩ .leaf .leaf) .leaf) (.node 294 ⟨Tryz.t294.desc,Tryz.t294⟩ .leaf .leaf)) (.node 298 ⟨Tryz.t298.desc,Tryz.t298⟩ (.node 297 ⟨Tryz.t296.desc,Tryz.t297⟩ (.node 296 ⟨Tryz.t296.desc,Tryz.t296⟩ .leaf .leaf) .leaf) (.node 299 ⟨Tryz.t299.desc,Tryz.t299⟩ .leaf .leaf))) (.node 305 ⟨Tryz.t305.desc,Tryz.t305⟩ (.node 303 ⟨Tryz.t303.desc,Tryz.t303⟩ (.node 302 ⟨Tryz.t302.desc,Tryz.t302⟩ (.node 301 ⟨Tryz.t301.desc,Tryz.t301⟩ .leaf .leaf) .leaf) (.node 304 ⟨Tryz.t304.desc,Tryz.t304⟩ .leaf .leaf)) (.node 307 ⟨Tryz.t307.desc,Tryz.t307⟩ (.node 306 ⟨Tryz.t306.desc,Tryz.t306⟩ .leaf .leaf) (.node 308 ⟨Tryz.t308.desc,Tryz.t308⟩ .leaf .leaf)))) (.node 319 ⟨Tryz.t319.desc,Tryz.t319⟩ (.node 314 ⟨Tryz.t314.desc,Tryz.t314⟩ (.node 312 ⟨Tryz.t311.desc,Tryz.t312⟩ (.node 311 ⟨Tryz.t311.desc,Tryz.t311⟩ (.node 310 ⟨Tryz.t310.desc,Tryz.t310⟩ .leaf .leaf) .leaf) (.node 313 ⟨Tryz.t313.desc,Tryz.t313⟩ .leaf .leaf)) (.node 316 ⟨Tryz.t316.desc,Tryz.t316⟩ (.node 315 ⟨Tryz.t315.desc,Tryz.t315⟩ .leaf .leaf) (.node 318 ⟨Tryz.t318.desc,Tryz.t318⟩ .leaf .leaf))) (.node 324 ⟨Tryz.t323.desc,Tryz.t324⟩ (.node 322 ⟨Tryz.t322.desc,Tryz.t322⟩ (.node 321 ⟨Tryz.t321.desc,Tryz.t321⟩ (.node 320 ⟨Tryz.t320.desc,Tryz.t320⟩ .leaf .leaf) .leaf) (.node 323 ⟨Tryz.t323.desc,Tryz.t323⟩ .leaf .leaf)) (.node 326 ⟨Tryz.t326.desc,Tryz.t326⟩ (.node 325 ⟨Tryz.t325.desc,Tryz.t325⟩ .leaf .leaf) (.node 327 ⟨Tryz.t326.desc,Tryz.t327⟩ .leaf .leaf)))))))) (.node 501 ⟨Tryz.t501.desc,Tryz.t501⟩ (.node 418 ⟨Tryz.t418.desc,Tryz.t418⟩ (.node 376 ⟨Tryz.t376.desc,Tryz.t376⟩ (.node 351 ⟨Tryz.t351.desc,Tryz.t351⟩ (.node 340 ⟨Tryz.t340.desc,Tryz.t340⟩ (.node 335 ⟨Tryz.t335.desc,Tryz.t335⟩ (.node 332 ⟨Tryz.t332.desc,Tryz.t332⟩ (.node 331 ⟨Tryz.t331.desc,Tryz.t331⟩ (.node 330 ⟨Tryz.t330.desc,Tryz.t330⟩ .leaf .leaf) .leaf) (.node 333 ⟨Tryz.t333.desc,Tryz.t333⟩ .leaf .leaf)) (.node 338 ⟨Tryz.t338.desc,Tryz.t338⟩ (.node 337 ⟨Tryz.t337.desc,Tryz.t337⟩ (.node 336 ⟨Tryz.t336.desc,Tryz.t336⟩ .leaf .leaf) .leaf) (.node 339 ⟨Tryz.t339.desc,Tryz.t339⟩ .leaf .leaf))) (.node 347 ⟨Tryz.t346.desc,Tryz.t347⟩ (.node 345 ⟨Tryz.t345.desc,Tryz.t345⟩ (.node 343 ⟨Tryz.t343.desc,Tryz.t343⟩ (.node 342 ⟨Tryz.t342.desc,Tryz.t342⟩ .leaf .leaf) .leaf) (.node 346 ⟨Tryz.t346.desc,Tryz.t346⟩ .leaf .leaf)) (.node 349 ⟨Tryz.t348.desc,Tryz.t349⟩ (.node 348 ⟨Tryz.t348.desc,Tryz.t348⟩ .leaf .leaf) (.node 350 ⟨Tryz.t350.desc,Tryz.t350⟩ .leaf .leaf)))) (.node 362 ⟨Tryz.t362.desc,Tryz.t362⟩ (.node 357 ⟨Tryz.t357.desc,Tryz.t357⟩ (.node 355 ⟨Tryz.t355.desc,Tryz.t355⟩ (.node 353 ⟨Tryz.t353.desc,Tryz.t353⟩ (.node 352 ⟨Tryz.t352.desc,Tryz.t352⟩ .leaf .leaf) .leaf) (.node 356 ⟨Tryz.t356.desc,Tryz.t356⟩ .leaf .leaf)) (.node 360 ⟨Tryz.t360.desc,Tryz.t360⟩ (.node 358 ⟨Tryz.t357.desc,Tryz.t358⟩ .leaf .leaf) (.node 361 ⟨Tryz.t361.desc,Tryz.t361⟩ .leaf .leaf))) (.node 368 ⟨Tryz.t368.desc,Tryz.t368⟩ (.node 365 ⟨Tryz.t365.desc,Tryz.t365⟩ (.node 364 ⟨Tryz.t364.desc,Tryz.t364⟩ (.node 363 ⟨Tryz.t363.desc,Tryz.t363⟩ .leaf .leaf) .leaf) (.node 366 ⟨Tryz.t365.desc,Tryz.t366⟩ .leaf .leaf)) (.node 372 ⟨Tryz.t372.desc,Tryz.t372⟩ (.node 370 ⟨Tryz.t370.desc,Tryz.t370⟩ .leaf .leaf) (.node 374 ⟨Tryz.t374.desc,Tryz.t374⟩ .leaf .leaf))))) (.node 399 ⟨Tryz.t399.desc,Tryz.t399⟩ (.node 387 ⟨Tryz.t387.desc,Tryz.t387⟩ (.node 382 ⟨Tryz.t382.desc,Tryz.t382⟩ (.node 380 ⟨Tryz.t380.desc,Tryz.t380⟩ (.node 378 ⟨Tryz.t378.desc,Tryz.t378⟩ (.node 377 ⟨Tryz.t377.desc,Tryz.t377⟩ .leaf .leaf) .leaf) (.node 381 ⟨Tryz.t381.desc,Tryz.t381⟩ .leaf .leaf)) (.node 385 ⟨Tryz.t385.desc,Tryz.t385⟩ (.node 384 ⟨Tryz.t384.desc,Tryz.t384⟩ (.node 383 ⟨Tryz.t383.desc,Tryz.t383⟩ .leaf .leaf) .leaf) (.node 386 ⟨Tryz.t386.desc,Tryz.t386⟩ .leaf .leaf))) (.node 394 ⟨Tryz.t394.desc,Tryz.t394⟩ (.node 390 ⟨Tryz.t390.desc,Tryz.t390⟩ (.node 389 ⟨Tryz.t389.desc,Tryz.t389⟩ (.node 388 ⟨Tryz.t387.desc,Tryz.t388⟩ .leaf .leaf) .leaf) (.node 392 ⟨Tryz.t392.desc,Tryz.t392⟩ .leaf .leaf)) (.node 396 ⟨Tryz.t396.desc,Tryz.t396⟩ (.node 395 ⟨Tryz.t395.desc,Tryz.t395⟩ .leaf .leaf) (.node 398 ⟨Tryz.t398.desc,Tryz.t398⟩ .leaf .leaf)))) (.node 409 ⟨Tryz.t409.desc,Tryz.t409⟩ (.node 404 ⟨Tryz.t404.desc,Tryz.t404⟩ (.node 402 ⟨Tryz.t402.desc,Tryz.t402⟩ (.node 401 ⟨Tryz.t401.desc,Tryz.t401⟩ (.node 400 ⟨Tryz.t400.desc,Tryz.t400⟩ .leaf .leaf) .leaf) (.node 403 ⟨Tryz.t403.desc,Tryz.t403⟩ .leaf .leaf)) (.node 406 ⟨Tryz.t405.desc,Tryz.t406⟩ (.node 405 ⟨Tryz.t405.desc,Tryz.t405⟩ .leaf .leaf) (.node 408 ⟨Tryz.t408.desc,Tryz.t408⟩ .leaf .leaf))) (.node 414 ⟨Tryz.t414.desc,Tryz.t414⟩ (.node 412 ⟨Tryz.t412.desc,Tryz.t412⟩ (.node 411 ⟨Tryz.t411.desc,Tryz.t411⟩ (.node 410 ⟨Tryz.t410.desc,Tryz.t410⟩ .leaf .leaf) .leaf) (.node 413 ⟨Tryz.t413.desc,Tryz.t413⟩ .leaf .leaf)) (.node 416 ⟨Tryz.t416.desc,Tryz.t416⟩ (.node 415 ⟨Tryz.t414.desc,Tryz.t415⟩ .leaf .leaf) (.node 417 ⟨Tryz.t417.desc,Tryz.t417⟩ .leaf .leaf)))))) (.node 460 ⟨Tryz.t459.desc,Tryz.t460⟩ (.node 439 ⟨Tryz.t439.desc,Tryz.t439⟩ (.node 429 ⟨Tryz.t429.desc,Tryz.t429⟩ (.node 423 ⟨Tryz.t423.desc,Tryz.t423⟩ (.node 421 ⟨Tryz.t421.desc,Tryz.t421⟩ (.node 420 ⟨Tryz.t420.desc,Tryz.t420⟩ (.node 419 ⟨Tryz.t418.desc,Tryz.t419⟩ .leaf .leaf) .leaf) (.node 422 ⟨Tryz.t422.desc,Tryz.t422⟩ .leaf .leaf)) (.node 427 ⟨Tryz.t427.desc,Tryz.t427⟩ (.node 426 ⟨Tryz.t426.desc,Tryz.t426⟩ (.node 424 ⟨Tryz.t424.desc,Tryz.t424⟩ .leaf .leaf) .leaf) (.node 428 ⟨Tryz.t428.desc,Tryz.t428⟩ .leaf .leaf))) (.node 434 ⟨Tryz.t434.desc,Tryz.t434⟩ (.node 432 ⟨Tryz.t432.desc,Tryz.t432⟩ (.node 431 ⟨Tryz.t431.desc,Tryz.t431⟩ (.node 430 ⟨Tryz.t430.desc,Tryz.t430⟩ .leaf .leaf) .leaf) (.node 433 ⟨Tryz.t433.desc,Tryz.t433⟩ .leaf .leaf)) (.node 436 ⟨Tryz.t436.desc,Tryz.t436⟩ (.node 435 ⟨Tryz.t435.desc,Tryz.t435⟩ .leaf .leaf) (.node 438 ⟨Tryz.t438.desc,Tryz.t438⟩ .leaf .leaf)))) (.node 450 ⟨Tryz.t450.desc,Tryz.t450⟩ (.node 446 ⟨Tryz.t446.desc,Tryz.t446⟩ (.node 443 ⟨Tryz.t443.desc,Tryz.t443⟩ (.node 441 ⟨Tryz.t441.desc,Tryz.t441⟩ (.node 440 ⟨Tryz.t440.desc,Tryz.t440⟩ .leaf .leaf) .leaf) (.node 445 ⟨Tryz.t445.desc,Tryz.t445⟩ .leaf .leaf)) (.node 448 ⟨Tryz.t448.desc,Tryz.t448⟩ (.node 447 ⟨Tryz.t447.desc,Tryz.t447⟩ .leaf .leaf) (.node 449 ⟨Tryz.t449.desc,Tryz.t449⟩ .leaf .leaf))) (.node 456 ⟨Tryz.t456.desc,Tryz.t456⟩ (.node 454 ⟨Tryz.t454.desc,Tryz.t454⟩ (.node 452 ⟨Tryz.t452.desc,Tryz.t452⟩ (.node 451 ⟨Tryz.t451.desc,Tryz.t451⟩ .leaf .leaf) .leaf) (.node 455 ⟨Tryz.t455.desc,Tryz.t455⟩ .leaf .leaf)) (.node 458 ⟨Tryz.t458.desc,Tryz.t458⟩ (.node 457 ⟨Tryz.t457.desc,Tryz.t457⟩ .leaf .leaf) (.node 459 ⟨Tryz.t459.desc,Tryz.t459⟩ .leaf .leaf))))) (.node 480 ⟨Tryz.t480.desc,Tryz.t480⟩ (.node 471 ⟨Tryz.t471.desc,Tryz.t471⟩ (.node 465 ⟨Tryz.t464.desc,Tryz.t465⟩ (.node 463 ⟨Tryz.t463.desc,Tryz.t463⟩ (.node 462 ⟨Tryz.t462.desc,Tryz.t462⟩ (.node 461 ⟨Tryz.t461.desc,Tryz.t461⟩ .leaf .leaf) .leaf) (.node 464 ⟨Tryz.t464.desc,Tryz.t464⟩ .leaf .leaf)) (.node 468 ⟨Tryz.t467.desc,Tryz.t468⟩ (.node 467 ⟨Tryz.t467.desc,Tryz.t467⟩ (.node 466 ⟨Tryz.t466.desc,Tryz.t466⟩ .leaf .leaf) .leaf) (.node 469 ⟨Tryz.t469.desc,Tryz.t469⟩ .leaf .leaf))) (.node 476 ⟨Tryz.t476.desc,Tryz.t476⟩ (.node 474 ⟨Tryz.t474.desc,Tryz.t474⟩ (.node 473 ⟨Tryz.t473.desc,Tryz.t473⟩ (.node 472 ⟨Tryz.t472.desc,Tryz.t472⟩ .leaf .leaf) .leaf) (.node 475 ⟨Tryz.t475.desc,Tryz.t475⟩ .leaf .leaf)) (.node 478 ⟨Tryz.t478.desc,Tryz.t478⟩ (.node 477 ⟨Tryz.t477.desc,Tryz.t477⟩ .leaf .leaf) (.node 479 ⟨Tryz.t479.desc,Tryz.t479⟩ .leaf .leaf)))) (.node 492 ⟨Tryz.t492.desc,Tryz.t492⟩ (.node 487 ⟨Tryz.t487.desc,Tryz.t487⟩ (.node 485 ⟨Tryz.t485.desc,Tryz.t485⟩ (.node 483 ⟨Tryz.t483.desc,Tryz.t483⟩ (.node 482 ⟨Tryz.t482.desc,Tryz.t482⟩ .leaf .leaf) .leaf) (.node 486 ⟨Tryz.t486.desc,Tryz.t486⟩ .leaf .leaf)) (.node 490 ⟨Tryz.t490.desc,Tryz.t490⟩ (.node 489 ⟨Tryz.t489.desc,Tryz.t489⟩ .leaf .leaf) (.node 491 ⟨Tryz.t491.desc,Tryz.t491⟩ .leaf .leaf))) (.node 497 ⟨Tryz.t497.desc,Tryz.t497⟩ (.node 495 ⟨Tryz.t495.desc,Tryz.t495⟩ (.node 494 ⟨Tryz.t494.desc,Tryz.t494⟩ (.node 493 ⟨Tryz.t493.desc,Tryz.t493⟩ .leaf .leaf) .leaf) (.node 496 ⟨Tryz.t496.desc,Tryz.t496⟩ .leaf .leaf)) (.node 499 ⟨Tryz.t499.desc,Tryz.t499⟩ (.node 498 ⟨Tryz.t498.desc,Tryz.t498⟩ .leaf .leaf) (.node 500 ⟨Tryz.t500.desc,Tryz.t500⟩ .leaf .leaf))))))) (.node 577 ⟨Tryz.t577.desc,Tryz.t577⟩ (.node 539 ⟨Tryz.t539.desc,Tryz.t539⟩ (.node 520 ⟨Tryz.t3.desc,Tryz.t520⟩ (.node 511 ⟨Tryz.t511.desc,Tryz.t511⟩ (.node 506 ⟨Tryz.t506.desc,Tryz.t506⟩ (.node 504 ⟨Tryz.t504.desc,Tryz.t504⟩ (.node 503 ⟨Tryz.t503.desc,Tryz.t503⟩ (.node 502 ⟨Tryz.t502.desc,Tryz.t502⟩ .leaf .leaf) .leaf) (.node 505 ⟨Tryz.t505.desc,Tryz.t505⟩ .leaf .leaf)) (.node 509 ⟨Tryz.t509.desc,Tryz.t509⟩ (.node 508 ⟨Tryz.t508.desc,Tryz.t508⟩ (.node 507 ⟨Tryz.t507.desc,Tryz.t507⟩ .leaf .leaf) .leaf) (.node 510 ⟨Tryz.t510.desc,Tryz.t510⟩ .leaf .leaf))) (.node 516 ⟨Tryz.t516.desc,Tryz.t516⟩ (.node 514 ⟨Tryz.t514.desc,Tryz.t514⟩ (.node 513 ⟨Tryz.t513.desc,Tryz.t513⟩ (.node 512 ⟨Tryz.t512.desc,Tryz.t512⟩ .leaf .leaf) .leaf) (.node 515 ⟨Tryz.t515.desc,Tryz.t515⟩ .leaf .leaf)) (.node 518 ⟨Tryz.t518.desc,Tryz.t518⟩ (.node 517 ⟨Tryz.t517.desc,Tryz.t517⟩ .leaf .leaf) (.node 519 ⟨Tryz.t519.desc,Tryz.t519⟩ .leaf .leaf)))) (.node 530 ⟨Tryz.t530.desc,Tryz.t530⟩ (.node 526 ⟨Tryz.t526.desc,Tryz.t526⟩ (.node 524 ⟨Tryz.t524.desc,Tryz.t524⟩ (.node 523 ⟨Tryz.t523.desc,Tryz.t523⟩ (.node 522 ⟨Tryz.t522.desc,Tryz.t522⟩ .leaf .leaf) .leaf) (.node 525 ⟨Tryz.t525.desc,Tryz.t525⟩ .leaf .leaf)) (.node 528 ⟨Tryz.t528.desc,Tryz.t528⟩ (.node 527 ⟨Tryz.t527.desc,Tryz.t527⟩ .leaf .leaf) (.node 529 ⟨Tryz.t529.desc,Tryz.t529⟩ .leaf .leaf))) (.node 535 ⟨Tryz.t535.desc,Tryz.t535⟩ (.node 533 ⟨Tryz.t533.desc,Tryz.t533⟩ (.node 532 ⟨Tryz.t532.desc,Tryz.t532⟩ (.node 531 ⟨Tryz.t531.desc,Tryz.t531⟩ .leaf .leaf) .leaf) (.node 534 ⟨Tryz.t533.desc,Tryz.t534⟩ .leaf .leaf)) (.node 537 ⟨Tryz.t537.desc,Tryz.t537⟩ (.node 536 ⟨Tryz.t536.desc,Tryz.t536⟩ .leaf .leaf) (.node 538 ⟨Tryz.t538.desc,Tryz.t538⟩ .leaf .leaf))))) (.node 559 ⟨Tryz.t559.desc,Tryz.t559⟩ (.node 550 ⟨Tryz.t550.desc,Tryz.t550⟩ (.node 544 ⟨Tryz.t543.desc,Tryz.t544⟩ (.node 542 ⟨Tryz.t542.desc,Tryz.t542⟩ (.node 541 ⟨Tryz.t541.desc,Tryz.t541⟩ (.node 540 ⟨Tryz.t540.desc,Tryz.t540⟩ .leaf .leaf) .leaf) (.node 543 ⟨Tryz.t543.desc,Tryz.t543⟩ .leaf .leaf)) (.node 547 ⟨Tryz.t547.desc,Tryz.t547⟩ (.node 546 ⟨Tryz.t546.desc,Tryz.t546⟩ (.node 545 ⟨Tryz.t545.desc,Tryz.t545⟩ .leaf .leaf) .leaf) (.node 548 ⟨Tryz.t548.desc,Tryz.t548⟩ .leaf .leaf))) (.node 555 ⟨Tryz.t555.desc,Tryz.t555⟩ (.node 553 ⟨Tryz.t553.desc,Tryz.t553⟩ (.node 552 ⟨Tryz.t552.desc,Tryz.t552⟩ (.node 551 ⟨Tryz.t551.desc,Tryz.t551⟩ .leaf .leaf) .leaf) (.node 554 ⟨Tryz.t554.desc,Tryz.t554⟩ .leaf .leaf)) (.node 557 ⟨Tryz.t557.desc,Tryz.t557⟩ (.node 556 ⟨Tryz.t556.desc,Tryz.t556⟩ .leaf .leaf) (.node 558 ⟨Tryz.t558.desc,Tryz.t558⟩ .leaf .leaf)))) (.node 568 ⟨Tryz.t568.desc,Tryz.t568⟩ (.node 564 ⟨Tryz.t564.desc,Tryz.t564⟩ (.node 562 ⟨Tryz.t562.desc,Tryz.t562⟩ (.node 561 ⟨Tryz.t561.desc,Tryz.t561⟩ (.node 560 ⟨Tryz.t560.desc,Tryz.t560⟩ .leaf .leaf) .leaf) (.node 563 ⟨Tryz.t563.desc,Tryz.t563⟩ .leaf .leaf)) (.node 566 ⟨Tryz.t566.desc,Tryz.t566⟩ (.node 565 ⟨Tryz.t565.desc,Tryz.t565⟩ .leaf .leaf) (.node 567 ⟨Tryz.t567.desc,Tryz.t567⟩ .leaf .leaf))) (.node 573 ⟨Tryz.t573.desc,Tryz.t573⟩ (.node 571 ⟨Tryz.t571.desc,Tryz.t571⟩ (.node 570 ⟨Tryz.t570.desc,Tryz.t570⟩ (.node 569 ⟨Tryz.t569.desc,Tryz.t569⟩ .leaf .leaf) .leaf) (.node 572 ⟨Tryz.t572.desc,Tryz.t572⟩ .leaf .leaf)) (.node 575 ⟨Tryz.t575.desc,Tryz.t575⟩ (.node 574 ⟨Tryz.t574.desc,Tryz.t574⟩ .leaf .leaf) (.node 576 ⟨Tryz.t576.desc,Tryz.t576⟩ .leaf .leaf)))))) (.node 615 ⟨Tryz.t615.desc,Tryz.t615⟩ (.node 597 ⟨Tryz.t597.desc,Tryz.t597⟩ (.node 588 ⟨Tryz.t588.desc,Tryz.t588⟩ (.node 582 ⟨Tryz.t582.desc,Tryz.t582⟩ (.node 580 ⟨Tryz.t38.desc,Tryz.t580⟩ (.node 579 ⟨Tryz.t579.desc,Tryz.t579⟩ (.node 578 ⟨Tryz.t578.desc,Tryz.t578⟩ .leaf .leaf) .leaf) (.node 581 ⟨Tryz.t581.desc,Tryz.t581⟩ .leaf .leaf)) (.node 586 ⟨Tryz.t586.desc,Tryz.t586⟩ (.node 584 ⟨Tryz.t584.desc,Tryz.t584⟩ (.node 583 ⟨Tryz.t583.desc,Tryz.t583⟩ .leaf .leaf) .leaf) (.node 587 ⟨Tryz.t587.desc,Tryz.t587⟩ .leaf .leaf))) (.node 593 ⟨Tryz.t593.desc,Tryz.t593⟩ (.node 591 ⟨Tryz.t591.desc,Tryz.t591⟩ (.node 590 ⟨Tryz.t590.desc,Tryz.t590⟩ (.node 589 ⟨Tryz.t589.desc,Tryz.t589⟩ .leaf .leaf) .leaf) (.node 592 ⟨Tryz.t591.desc,Tryz.t592⟩ .leaf .leaf)) (.node 595 ⟨Tryz.t595.desc,Tryz.t595⟩ (.node 594 ⟨Tryz.t594.desc,Tryz.t594⟩ .leaf .leaf) (.node 596 ⟨Tryz.t596.desc,Tryz.t596⟩ .leaf .leaf)))) (.node 606 ⟨Tryz.t606.desc,Tryz.t606⟩ (.node 602 ⟨Tryz.t602.desc,Tryz.t602⟩ (.node 600 ⟨Tryz.t600.desc,Tryz.t600⟩ (.node 599 ⟨Tryz.t599.desc,Tryz.t599⟩ (.node 598 ⟨Tryz.t598.desc,Tryz.t598⟩ .leaf .leaf) .leaf) (.node 601 ⟨Tryz.t601.desc,Tryz.t601⟩ .leaf .leaf)) (.node 604 ⟨Tryz.t604.desc,Tryz.t604⟩ (.node 603 ⟨Tryz.t603.desc,Tryz.t603⟩ .leaf .leaf) (.node 605 ⟨Tryz.t605.desc,Tryz.t605⟩ .leaf .leaf))) (.node 611 ⟨Tryz.t611.desc,Tryz.t611⟩ (.node 609 ⟨Tryz.t609.desc,Tryz.t609⟩ (.node 608 ⟨Tryz.t608.desc,Tryz.t608⟩ (.node 607 ⟨Tryz.t607.desc,Tryz.t607⟩ .leaf .leaf) .leaf) (.node 610 ⟨Tryz.t610.desc,Tryz.t610⟩ .leaf .leaf)) (.node 613 ⟨Tryz.t613.desc,Tryz.t613⟩ (.node 612 ⟨Tryz.t612.desc,Tryz.t612⟩ .leaf .leaf) (.node 614 ⟨Tryz.t614.desc,Tryz.t614⟩ .leaf .leaf))))) (.node 636 ⟨Tryz.t636.desc,Tryz.t636⟩ (.node 627 ⟨Tryz.t627.desc,Tryz.t627⟩ (.node 621 ⟨Tryz.t621.desc,Tryz.t621⟩ (.node 618 ⟨Tryz.t618.desc,Tryz.t618⟩ (.node 617 ⟨Tryz.t617.desc,Tryz.t617⟩ (.node 616 ⟨Tryz.t616.desc,Tryz.t616⟩ .leaf .leaf) .leaf) (.node 619 ⟨Tryz.t619.desc,Tryz.t619⟩ .leaf .leaf)) (.node 625 ⟨Tryz.t625.desc,Tryz.t625⟩ (.node 624 ⟨Tryz.t624.desc,Tryz.t624⟩ (.node 623 ⟨Tryz.t623.desc,Tryz.t623⟩ .leaf .leaf) .leaf) (.node 626 ⟨Tryz.t626.desc,Tryz.t626⟩ .leaf .leaf))) (.node 632 ⟨Tryz.t632.desc,Tryz.t632⟩ (.node 630 ⟨Tryz.t630.desc,Tryz.t630⟩ (.node 629 ⟨Tryz.t629.desc,Tryz.t629⟩ (.node 628 ⟨Tryz.t628.desc,Tryz.t628⟩ .leaf .leaf) .leaf) (.node 631 ⟨Tryz.t631.desc,Tryz.t631⟩ .leaf .leaf)) (.node 634 ⟨Tryz.t634.desc,Tryz.t634⟩ (.node 633 ⟨Tryz.t633.desc,Tryz.t633⟩ .leaf .leaf) (.node 635 ⟨Tryz.t635.desc,Tryz.t635⟩ .leaf .leaf)))) (.node 645 ⟨Tryz.t5.desc,Tryz.t645⟩ (.node 641 ⟨Tryz.t640.desc,Tryz.t641⟩ (.node 639 ⟨Tryz.t639.desc,Tryz.t639⟩ (.node 638 ⟨Tryz.t638.desc,Tryz.t638⟩ (.node 637 ⟨Tryz.t637.desc,Tryz.t637⟩ .leaf .leaf) .leaf) (.node 640 ⟨Tryz.t640.desc,Tryz.t640⟩ .leaf .leaf)) (.node 643 ⟨Tryz.t643.desc,Tryz.t643⟩ (.node 642 ⟨Tryz.t642.desc,Tryz.t642⟩ .leaf .leaf) (.node 644 ⟨Tryz.t643.desc,Tryz.t644⟩ .leaf .leaf))) (.node 650 ⟨Tryz.t21.desc,Tryz.t650⟩ (.node 648 ⟨Tryz.t648.desc,Tryz.t648⟩ (.node 647 ⟨Tryz.t647.desc,Tryz.t647⟩ (.node 646 ⟨Tryz.t5.desc,Tryz.t646⟩ .leaf .leaf) .leaf) (.node 649 ⟨Tryz.t21.desc,Tryz.t649⟩ .leaf .leaf)) (.node 652 ⟨Tryz.t651.desc,Tryz.t652⟩ (.node 651 ⟨Tryz.t651.desc,Tryz.t651⟩ .leaf .leaf) (.node 653 ⟨Tryz.t653.desc,Tryz.t653⟩ .leaf .leaf)))))))))
instance je:eO Tryz.prog aY:=⟨⟨Wq,⟨YR,⟨abx,⟨ab8,⟨acs,⟨acC,⟨aei,⟨aek,⟨ael,⟨aem,trivial,trivial⟩,trivial⟩,⟨aej,trivial,trivial⟩⟩,⟨aef,⟨aeg,⟨aeh,trivial,trivial⟩,trivial⟩,⟨aee,trivial,trivial⟩⟩⟩,⟨acx,⟨acz,⟨acA,⟨acB,trivial,trivial⟩,trivial⟩,⟨acy,trivial,trivial⟩⟩,⟨acv,⟨acw,trivial,trivial⟩,⟨acu,trivial,trivial⟩⟩⟩⟩,⟨ach,⟨acn,⟨acp,⟨acq,⟨acr,trivial,trivial⟩,trivial⟩,⟨aco,trivial,trivial⟩⟩,⟨acj,⟨ack,⟨acm,trivial,trivial⟩,trivial⟩,⟨aci,trivial,trivial⟩⟩⟩,⟨acb,⟨ace,⟨acf,⟨acg,trivial,trivial⟩,trivial⟩,⟨acd,trivial,trivial⟩⟩,⟨ab',⟨aca,trivial,trivial⟩,⟨ab9,trivial,trivial⟩⟩⟩⟩⟩,⟨abP,⟨abY,⟨ab3,⟨ab5,⟨ab6,⟨ab7,trivial,trivial⟩,trivial⟩,⟨ab4,trivial,trivial⟩⟩,⟨ab0,⟨ab1,⟨ab2,trivial,trivial⟩,trivial⟩,⟨abZ,trivial,trivial⟩⟩⟩,⟨abT,⟨abV,⟨abW,⟨abX,trivial,trivial⟩,trivial⟩,⟨abU,trivial,trivial⟩⟩,⟨abR,⟨abS,trivial,trivial⟩,⟨abQ,trivial,trivial⟩⟩⟩⟩,⟨abG,⟨abK,⟨abM,⟨abN,⟨abO,trivial,trivial⟩,trivial⟩,⟨abL,trivial,trivial⟩⟩,⟨abI,⟨abJ,trivial,trivial⟩,⟨abH,trivial,trivial⟩⟩⟩,⟨abB,⟨abD,⟨abE,⟨abF,trivial,trivial⟩,trivial⟩,⟨abC,trivial,trivial⟩⟩,⟨abz,⟨abA,trivial,trivial⟩,⟨aby,trivial,trivial⟩⟩⟩⟩⟩⟩,⟨Zr,⟨abd,⟨abm,⟨abr,⟨abu,⟨abv,⟨abw,trivial,trivial⟩,trivial⟩,⟨abt,trivial,trivial⟩⟩,⟨abo,⟨abp,⟨abq,trivial,trivial⟩,trivial⟩,⟨abn,trivial,trivial⟩⟩⟩,⟨abh,⟨abj,⟨abk,⟨abl,trivial,trivial⟩,trivial⟩,⟨abi,trivial,trivial⟩⟩,⟨abf,⟨abg,trivial,trivial⟩,⟨abe,trivial,trivial⟩⟩⟩⟩,⟨ZA,⟨ZE,⟨ZG,⟨ZH,⟨ZI,trivial,trivial⟩,trivial⟩,⟨ZF,trivial,trivial⟩⟩,⟨ZC,⟨ZD,trivial,trivial⟩,⟨ZB,trivial,trivial⟩⟩⟩,⟨Zv,⟨Zx,⟨Zy,⟨Zz,trivial,trivial⟩,trivial⟩,⟨Zw,trivial,trivial⟩⟩,⟨Zt,⟨Zu,trivial,trivial⟩,⟨Zs,trivial,trivial⟩⟩⟩⟩⟩,⟨Y9,⟨Zh,⟨Zm,⟨Zo,⟨Zp,⟨Zq,trivial,trivial⟩,trivial⟩,⟨Zn,trivial,trivial⟩⟩,⟨Zj,⟨Zk,⟨Zl,trivial,trivial⟩,trivial⟩,⟨Zi,trivial,trivial⟩⟩⟩,⟨Zc,⟨Ze,⟨Zf,⟨Zg,trivial,trivial⟩,trivial⟩,⟨Zd,trivial,trivial⟩⟩,⟨Za,⟨Zb,trivial,trivial⟩,⟨Y',trivial,trivial⟩⟩⟩⟩,⟨Y0,⟨Y4,⟨Y6,⟨Y7,⟨Y8,trivial,trivial⟩,trivial⟩,⟨Y5,trivial,trivial⟩⟩,⟨Y2,⟨Y3,trivial,trivial⟩,⟨Y1,trivial,trivial⟩⟩⟩,⟨YV,⟨YX,⟨YY,⟨YZ,trivial,trivial⟩,trivial⟩,⟨YW,trivial,trivial⟩⟩,⟨YT,⟨YU,trivial,trivial⟩,⟨YS,trivial,trivial⟩⟩⟩⟩⟩⟩⟩,⟨XG,⟨Yg,⟨Yy,⟨YH,⟨YM,⟨YO,⟨YP,⟨YQ,trivial,trivial⟩,trivial⟩,⟨YN,trivial,trivial⟩⟩,⟨YJ,⟨YK,⟨YL,trivial,trivial⟩,trivial⟩,⟨YI,trivial,trivial⟩⟩⟩,⟨YC,⟨YE,⟨YF,⟨YG,trivial,trivial⟩,trivial⟩,⟨YD,trivial,trivial⟩⟩,⟨YA,⟨YB,trivial,trivial⟩,⟨Yz,trivial,trivial⟩⟩⟩⟩,⟨Yp,⟨Yt,⟨Yv,⟨Yw,⟨Yx,trivial,trivial⟩,trivial⟩,⟨Yu,trivial,trivial⟩⟩,⟨Yr,⟨Ys,trivial,trivial⟩,⟨Yq,trivial,trivial⟩⟩⟩,⟨Yk,⟨Ym,⟨Yn,⟨Yo,trivial,trivial⟩,trivial⟩,⟨Yl,trivial,trivial⟩⟩,⟨Yi,⟨Yj,trivial,trivial⟩,⟨Yh,trivial,trivial⟩⟩⟩⟩⟩,⟨XY,⟨X7,⟨Yb,⟨Yd,⟨Ye,⟨Yf,trivial,trivial⟩,trivial⟩,⟨Yc,trivial,trivial⟩⟩,⟨X9,⟨X',⟨Ya,trivial,trivial⟩,trivial⟩,⟨X8,trivial,trivial⟩⟩⟩,⟨X2,⟨X4,⟨X5,⟨X6,trivial,trivial⟩,trivial⟩,⟨X3,trivial,trivial⟩⟩,⟨X0,⟨X1,trivial,trivial⟩,⟨XZ,trivial,trivial⟩⟩⟩⟩,⟨XP,⟨XT,⟨XV,⟨XW,⟨XX,trivial,trivial⟩,trivial⟩,⟨XU,trivial,trivial⟩⟩,⟨XR,⟨XS,trivial,trivial⟩,⟨XQ,trivial,trivial⟩⟩⟩,⟨XK,⟨XM,⟨XN,⟨XO,trivial,trivial⟩,trivial⟩,⟨XL,trivial,trivial⟩⟩,⟨XI,⟨XJ,trivial,trivial⟩,⟨XH,trivial,trivial⟩⟩⟩⟩⟩⟩,⟨W4,⟨Xm,⟨Xw,⟨XB,⟨XD,⟨XE,⟨XF,trivial,trivial⟩,trivial⟩,⟨XC,trivial,trivial⟩⟩,⟨Xy,⟨Xz,⟨XA,trivial,trivial⟩,trivial⟩,⟨Xx,trivial,trivial⟩⟩⟩,⟨Xq,⟨Xt,⟨Xu,⟨Xv,trivial,trivial⟩,trivial⟩,⟨Xr,trivial,trivial⟩⟩,⟨Xo,⟨Xp,trivial,trivial⟩,⟨Xn,trivial,trivial⟩⟩⟩⟩,⟨Xd,⟨Xh,⟨Xj,⟨Xk,⟨Xl,trivial,trivial⟩,trivial⟩,⟨Xi,trivial,trivial⟩⟩,⟨Xf,⟨Xg,trivial,trivial⟩,⟨Xe,trivial,trivial⟩⟩⟩,⟨W8,⟨Xa,⟨Xb,⟨Xc,trivial,trivial⟩,trivial⟩,⟨W9,trivial,trivial⟩⟩,⟨W6,⟨W7,trivial,trivial⟩,⟨W5,trivial,trivial⟩⟩⟩⟩⟩,⟨WK,⟨WU,⟨WZ,⟨W1,⟨W2,⟨W3,trivial,trivial⟩,trivial⟩,⟨W0,trivial,trivial⟩⟩,⟨WW,⟨WX,⟨WY,trivial,trivial⟩,trivial⟩,⟨WV,trivial,trivial⟩⟩⟩,⟨WO,⟨WR,⟨WS,⟨WT,trivial,trivial⟩,trivial⟩,⟨WQ,trivial,trivial⟩⟩,⟨WM,⟨WN,trivial,trivial⟩,⟨WL,trivial,trivial⟩⟩⟩⟩,⟨WA,⟨WE,⟨WH,⟨WI,⟨WJ,trivial,trivial⟩,trivial⟩,⟨WG,trivial,trivial⟩⟩,⟨WC,⟨WD,trivial,trivial⟩,⟨WB,trivial,trivial⟩⟩⟩,⟨Wv,⟨Wx,⟨Wy,⟨Wz,trivial,trivial⟩,trivial⟩,⟨Ww,trivial,trivial⟩⟩,⟨Ws,⟨Wu,trivial,trivial⟩,⟨Wr,trivial,trivial⟩⟩⟩⟩⟩⟩⟩⟩,⟨TX,⟨U',⟨VN,⟨V6,⟨Wf,⟨Wk,⟨Wn,⟨Wo,⟨Wp,trivial,trivial⟩,trivial⟩,⟨Wm,trivial,trivial⟩⟩,⟨Wh,⟨Wi,⟨Wj,trivial,trivial⟩,trivial⟩,⟨Wg,trivial,trivial⟩⟩⟩,⟨Wa,⟨Wc,⟨Wd,⟨We,trivial,trivial⟩,trivial⟩,⟨Wb,trivial,trivial⟩⟩,⟨V8,⟨V9,trivial,trivial⟩,⟨V7,trivial,trivial⟩⟩⟩⟩,⟨VW,⟨V0,⟨V3,⟨V4,⟨V5,trivial,trivial⟩,trivial⟩,⟨V2,trivial,trivial⟩⟩,⟨VY,⟨VZ,trivial,trivial⟩,⟨VX,trivial,trivial⟩⟩⟩,⟨VR,⟨VT,⟨VU,⟨VV,trivial,trivial⟩,trivial⟩,⟨VS,trivial,trivial⟩⟩,⟨VP,⟨VQ,trivial,trivial⟩,⟨VO,trivial,trivial⟩⟩⟩⟩⟩,⟨Vs,⟨VC,⟨VH,⟨VJ,⟨VK,⟨VL,trivial,trivial⟩,trivial⟩,⟨VI,trivial,trivial⟩⟩,⟨VE,⟨VF,⟨VG,trivial,trivial⟩,trivial⟩,⟨VD,trivial,trivial⟩⟩⟩,⟨Vx,⟨Vz,⟨VA,⟨VB,trivial,trivial⟩,trivial⟩,⟨Vy,trivial,trivial⟩⟩,⟨Vu,⟨Vv,trivial,trivial⟩,⟨Vt,trivial,trivial⟩⟩⟩⟩,⟨Vi,⟨Vn,⟨Vp,⟨Vq,⟨Vr,trivial,trivial⟩,trivial⟩,⟨Vo,trivial,trivial⟩⟩,⟨Vk,⟨Vl,trivial,trivial⟩,⟨Vj,trivial,trivial⟩⟩⟩,⟨Vd,⟨Vf,⟨Vg,⟨Vh,trivial,trivial⟩,trivial⟩,⟨Ve,trivial,trivial⟩⟩,⟨Vb,⟨Vc,trivial,trivial⟩,⟨Va,trivial,trivial⟩⟩⟩⟩⟩⟩,⟨Uy,⟨UQ,⟨U0,⟨U5,⟨U7,⟨U8,⟨U9,trivial,trivial⟩,trivial⟩,⟨U6,trivial,trivial⟩⟩,⟨U2,⟨U3,⟨U4,trivial,trivial⟩,trivial⟩,⟨U1,trivial,trivial⟩⟩⟩,⟨UU,⟨UX,⟨UY,⟨UZ,trivial,trivial⟩,trivial⟩,⟨UW,trivial,trivial⟩⟩,⟨US,⟨UT,trivial,trivial⟩,⟨UR,trivial,trivial⟩⟩⟩⟩,⟨UH,⟨UL,⟨UN,⟨UO,⟨UP,trivial,trivial⟩,trivial⟩,⟨UM,trivial,trivial⟩⟩,⟨UJ,⟨UK,trivial,trivial⟩,⟨UI,trivial,trivial⟩⟩⟩,⟨UC,⟨UE,⟨UF,⟨UG,trivial,trivial⟩,trivial⟩,⟨UD,trivial,trivial⟩⟩,⟨UA,⟨UB,trivial,trivial⟩,⟨Uz,trivial,trivial⟩⟩⟩⟩⟩,⟨Uf,⟨Uo,⟨Ut,⟨Uv,⟨Uw,⟨Ux,trivial,trivial⟩,trivial⟩,⟨Uu,trivial,trivial⟩⟩,⟨Uq,⟨Ur,⟨Us,trivial,trivial⟩,trivial⟩,⟨Up,trivial,trivial⟩⟩⟩,⟨Uj,⟨Ul,⟨Um,⟨Un,trivial,trivial⟩,trivial⟩,⟨Uk,trivial,trivial⟩⟩,⟨Uh,⟨Ui,trivial,trivial⟩,⟨Ug,trivial,trivial⟩⟩⟩⟩,⟨T7,⟨Ua,⟨Uc,⟨Ud,⟨Ue,trivial,trivial⟩,trivial⟩,⟨Ub,trivial,trivial⟩⟩,⟨T9,⟨T',trivial,trivial⟩,⟨T8,trivial,trivial⟩⟩⟩,⟨T2,⟨T4,⟨T5,⟨T6,trivial,trivial⟩,trivial⟩,⟨T3,trivial,trivial⟩⟩,⟨TZ,⟨T1,trivial,trivial⟩,⟨TY,trivial,trivial⟩⟩⟩⟩⟩⟩⟩,⟨Sy,⟨Th,⟨TD,⟨TM,⟨TS,⟨TU,⟨TV,⟨TW,trivial,trivial⟩,trivial⟩,⟨TT,trivial,trivial⟩⟩,⟨TO,⟨TQ,⟨TR,trivial,trivial⟩,trivial⟩,⟨TN,trivial,trivial⟩⟩⟩,⟨TH,⟨TJ,⟨TK,⟨TL,trivial,trivial⟩,trivial⟩,⟨TI,trivial,trivial⟩⟩,⟨TF,⟨TG,trivial,trivial⟩,⟨TE,trivial,trivial⟩⟩⟩⟩,⟨Ts,⟨Tw,⟨Tz,⟨TA,⟨TB,trivial,trivial⟩,trivial⟩,⟨Tx,trivial,trivial⟩⟩,⟨Tu,⟨Tv,trivial,trivial⟩,⟨Tt,trivial,trivial⟩⟩⟩,⟨Tm,⟨To,⟨Tp,⟨Tq,trivial,trivial⟩,trivial⟩,⟨Tn,trivial,trivial⟩⟩,⟨Tj,⟨Tl,trivial,trivial⟩,⟨Ti,trivial,trivial⟩⟩⟩⟩⟩,⟨SU,⟨S7,⟨Tc,⟨Te,⟨Tf,⟨Tg,trivial,trivial⟩,trivial⟩,⟨Td,trivial,trivial⟩⟩,⟨S9,⟨Ta,⟨Tb,trivial,trivial⟩,trivial⟩,⟨S8,trivial,trivial⟩⟩⟩,⟨SZ,⟨S4,⟨S5,⟨S6,trivial,trivial⟩,trivial⟩,⟨S0,trivial,trivial⟩⟩,⟨SX,⟨SY,trivial,trivial⟩,⟨SV,trivial,trivial⟩⟩⟩⟩,⟨SH,⟨SO,⟨SQ,⟨SR,⟨SS,trivial,trivial⟩,trivial⟩,⟨SP,trivial,trivial⟩⟩,⟨SM,⟨SN,trivial,trivial⟩,⟨SK,trivial,trivial⟩⟩⟩,⟨SC,⟨SE,⟨SF,⟨SG,trivial,trivial⟩,trivial⟩,⟨SD,trivial,trivial⟩⟩,⟨SA,⟨SB,trivial,trivial⟩,⟨Sz,trivial,trivial⟩⟩⟩⟩⟩⟩,⟨RS,⟨Sc,⟨Sl,⟨Sr,⟨Su,⟨Sv,⟨Sw,trivial,trivial⟩,trivial⟩,⟨Ss,trivial,trivial⟩⟩,⟨Sn,⟨Sp,⟨Sq,trivial,trivial⟩,trivial⟩,⟨Sm,trivial,trivial⟩⟩⟩,⟨Sg,⟨Si,⟨Sj,⟨Sk,trivial,trivial⟩,trivial⟩,⟨Sh,trivial,trivial⟩⟩,⟨Se,⟨Sf,trivial,trivial⟩,⟨Sd,trivial,trivial⟩⟩⟩⟩,⟨R3,⟨R7,⟨R9,⟨Sa,⟨Sb,trivial,trivial⟩,trivial⟩,⟨R8,trivial,trivial⟩⟩,⟨R5,⟨R6,trivial,trivial⟩,⟨R4,trivial,trivial⟩⟩⟩,⟨RW,⟨RY,⟨RZ,⟨R0,trivial,trivial⟩,trivial⟩,⟨RX,trivial,trivial⟩⟩,⟨RU,⟨RV,trivial,trivial⟩,⟨RT,trivial,trivial⟩⟩⟩⟩⟩,⟨Rz,⟨RI,⟨RN,⟨RP,⟨RQ,⟨RR,trivial,trivial⟩,trivial⟩,⟨RO,trivial,trivial⟩⟩,⟨RK,⟨RL,⟨RM,trivial,trivial⟩,trivial⟩,⟨RJ,trivial,trivial⟩⟩⟩,⟨RD,⟨RF,⟨RG,⟨RH,trivial,trivial⟩,trivial⟩,⟨RE,trivial,trivial⟩⟩,⟨RB,⟨RC,trivial,trivial⟩,⟨RA,trivial,trivial⟩⟩⟩⟩,⟨Rp,⟨Ru,⟨Rw,⟨Rx,⟨Ry,trivial,trivial⟩,trivial⟩,⟨Rv,trivial,trivial⟩⟩,⟨Rr,⟨Rs,trivial,trivial⟩,⟨Rq,trivial,trivial⟩⟩⟩,⟨Rk,⟨Rm,⟨Rn,⟨Ro,trivial,trivial⟩,trivial⟩,⟨Rl,trivial,trivial⟩⟩,⟨Ri,⟨Rj,trivial,trivial⟩,⟨Rh,trivial,trivial⟩⟩⟩⟩⟩⟩⟩⟩⟩⟩
def mixed:Tryz.prog.follows .mixedOrders=true:=by kernel_rfl
def go{A B:Prop}(a:A)(h:aa' A→B:=by(intro h;(repeat'(first|refine DA (U:=aY) rfl ?_|(refine HF ?_;first|refine rK zr zr zr zr ?_|refine rL zr zr zr zr zr zr zr ?_|refine rJ zr zr zr zr zr zr ?_|refine pA zr zr zr zr zr zr ?_)|(refine aS ?_;first|refine ec (U:=aY) 0 zr zr zr zr zr zr ?_|refine ec (U:=aY) 1 zr zr zr zr zr zr ?_|refine ec (U:=aY) 2 zr zr zr zr zr zr ?_|refine ec (U:=aY) 3 zr zr zr zr zr zr ?_|refine ec (U:=aY) 4 zr zr zr zr zr zr ?_|refine ec (U:=aY) 5 zr zr zr zr zr zr ?_|refine gm (U:=aY) 0 zr zr zr zr zr zr ?_|refine gm (U:=aY) 1 zr zr zr zr zr zr ?_|refine gm (U:=aY) 2 zr zr zr zr zr zr ?_)|(refine rI ?_;first|refine uJ zr zr zr ?_|refine uK zr zr zr ?_)|(refine nJ ?_;first|refine DB zr zr zr (by simp only[fZ];omega) ?_|refine A5 zr zr zr (by simp only[fZ];omega) ?_)|(refine ib ?_;refine sV (U:=aY) zr zr zr zr zr zr (by simp only[fZ];omega) ?_)|(refine aX ?_;first|refine dX (U:=aY) 0 fE zr zr zr zr zr zr zr zr zr ?_|refine dX (U:=aY) 1 fE zr zr zr zr zr zr zr zr zr ?_|refine dX (U:=aY) 2 fE zr zr zr zr zr zr zr zr zr ?_|refine dX (U:=aY) 3 fE zr zr zr zr zr zr zr zr zr ?_)|refine Dz ?_|refine aN rfl ?_|refine AY zr zr ?_|refine jY zr zr ?_));exact h.out)):B:=h ⟨a⟩
def eK{A B:Prop}(a:A)(h:aa' A→B:=by(intro h;(first|refine DA (U:=aY) rfl ?_|(refine HF ?_;first|refine rK zr zr zr zr ?_|refine rL zr zr zr zr zr zr zr ?_|refine rJ zr zr zr zr zr zr ?_|refine pA zr zr zr zr zr zr ?_)|(refine aS ?_;first|refine ec (U:=aY) 0 zr zr zr zr zr zr ?_|refine ec (U:=aY) 1 zr zr zr zr zr zr ?_|refine ec (U:=aY) 2 zr zr zr zr zr zr ?_|refine ec (U:=aY) 3 zr zr zr zr zr zr ?_|refine ec (U:=aY) 4 zr zr zr zr zr zr ?_|refine ec (U:=aY) 5 zr zr zr zr zr zr ?_|refine gm (U:=aY) 0 zr zr zr zr zr zr ?_|refine gm (U:=aY) 1 zr zr zr zr zr zr ?_|refine gm (U:=aY) 2 zr zr zr zr zr zr ?_)|(refine rI ?_;first|refine uJ zr zr zr ?_|refine uK zr zr zr ?_)|(refine nJ ?_;first|refine DB zr zr zr (by simp only[fZ];omega) ?_|refine A5 zr zr zr (by simp only[fZ];omega) ?_)|(refine ib ?_;refine sV (U:=aY) zr zr zr zr zr zr (by simp only[fZ];omega) ?_)|(refine aX ?_;first|refine dX (U:=aY) 0 fE zr zr zr zr zr zr zr zr zr ?_|refine dX (U:=aY) 1 fE zr zr zr zr zr zr zr zr zr ?_|refine dX (U:=aY) 2 fE zr zr zr zr zr zr zr zr zr ?_|refine dX (U:=aY) 3 fE zr zr zr zr zr zr zr zr zr ?_)|refine Dz ?_|refine aN rfl ?_|refine AY zr zr ?_|refine jY zr zr ?_);(repeat'(first|refine DA (U:=aY) rfl ?_|(refine HF ?_;first|refine rK zr zr zr zr ?_|refine rL zr zr zr zr zr zr zr ?_|refine rJ zr zr zr zr zr zr ?_|refine pA zr zr zr zr zr zr ?_)|(refine aS ?_;first|refine ec (U:=aY) 0 zr zr zr zr zr zr ?_|refine ec (U:=aY) 1 zr zr zr zr zr zr ?_|refine ec (U:=aY) 2 zr zr zr zr zr zr ?_|refine ec (U:=aY) 3 zr zr zr zr zr zr ?_|refine ec (U:=aY) 4 zr zr zr zr zr zr ?_|refine ec (U:=aY) 5 zr zr zr zr zr zr ?_|refine gm (U:=aY) 0 zr zr zr zr zr zr ?_|refine gm (U:=aY) 1 zr zr zr zr zr zr ?_|refine gm (U:=aY) 2 zr zr zr zr zr zr ?_)|(refine rI ?_;first|refine uJ zr zr zr ?_|refine uK zr zr zr ?_)|(refine nJ ?_;first|refine DB zr zr zr (by simp only[fZ];omega) ?_|refine A5 zr zr zr (by simp only[fZ];omega) ?_)|(refine ib ?_;refine sV (U:=aY) zr zr zr zr zr zr (by simp only[fZ];omega) ?_)|(refine aX ?_;first|refine dX (U:=aY) 0 fE zr zr zr zr zr zr zr zr zr ?_|refine dX (U:=aY) 1 fE zr zr zr zr zr zr zr zr zr ?_|refine dX (U:=aY) 2 fE zr zr zr zr zr zr zr zr zr ?_|refine dX (U:=aY) 3 fE zr zr zr zr zr zr zr zr zr ?_)|refine Dz ?_|refine aN rfl ?_|refine AY zr zr ?_|refine jY zr zr ?_));exact h.out)):B:=h ⟨a⟩
def rW{A B:Prop}(a:A)(h:aa' A→B:=by(intro h;(repeat'(first|refine DA (U:=aY) rfl ?_|(refine HF ?_;first|refine rK zr zr zr zr ?_|refine rL zr zr zr zr zr zr zr ?_|refine rJ zr zr zr zr zr zr ?_|refine pA zr zr zr zr zr zr ?_)|(refine aS ?_;first|refine ec (U:=aY) 0 zr zr zr zr zr zr ?_|refine ec (U:=aY) 1 zr zr zr zr zr zr ?_|refine ec (U:=aY) 2 zr zr zr zr zr zr ?_|refine ec (U:=aY) 3 zr zr zr zr zr zr ?_|refine ec (U:=aY) 4 zr zr zr zr zr zr ?_|refine ec (U:=aY) 5 zr zr zr zr zr zr ?_|refine gm (U:=aY) 0 zr zr zr zr zr zr ?_|refine gm (U:=aY) 1 zr zr zr zr zr zr ?_|refine gm (U:=aY) 2 zr zr zr zr zr zr ?_)|(refine rI ?_;first|refine uJ zr zr zr ?_|refine uK zr zr zr ?_)|(refine nJ ?_;first|refine DB zr zr zr (by simp only[fZ];omega) ?_|refine A5 zr zr zr (by simp only[fZ];omega) ?_)|(refine ib ?_;refine sV (U:=aY) zr zr zr zr zr zr (by simp only[fZ];omega) ?_)|(refine aX ?_;first|refine dX (U:=aY) 0 fE zr zr zr zr zr zr zr zr zr ?_|refine dX (U:=aY) 1 fE zr zr zr zr zr zr zr zr zr ?_|refine dX (U:=aY) 2 fE zr zr zr zr zr zr zr zr zr ?_|refine dX (U:=aY) 3 fE zr zr zr zr zr zr zr zr zr ?_)|refine Dz ?_));exact h.out)):B:=h ⟨a⟩
def kr := @HI Tryz.prog aY je
def aq := @ye Tryz.prog aY je
def aU := @NY Tryz.prog aY je
def bD := @ad' Tryz.prog aY je
def aP := @NV Tryz.prog aY je
def bo := @F' Tryz.prog aY je
def hJ := @Dv Tryz.prog aY je
def iF := @Qf Tryz.prog aY je
def du := @Du Tryz.prog aY je
def hX := @Dw Tryz.prog aY je
def bG := @dX Tryz.prog aY je
def bM := @aea Tryz.prog aY je
def aB := @Qh Tryz.prog aY je
def cC := @J9 Tryz.prog aY je
def cV := @J8 Tryz.prog aY je
def e7 := @Gb Tryz.prog aY je
def kX := @NU Tryz.prog aY je
def gR := @F9 Tryz.prog aY je
end Go.Proofs.YtjpboghdolfekaaGreatDoor
namespace Go.Proofs.YtjpboghdolfekaaGreatDoor
open Go Go.SL
def Nc{A:HP}{v:Value}{bs:List UInt8}(hv:Vw A v bs.length (bV bs))(h:0<bs.length):∃b o c,v = .slice (some ⟨b,o,none⟩) bs.length c:=hv.some (by cases bs with
 | nil=>simp at h
 | cons x l=>simp[bV])
theorem uH{bs:List UInt8}{i:Nat}(h:i<bs.length):(bV bs)[i]?=some (u8 (bs.getD i 0)):=by
 grind [bV]
theorem u9{x q:Nat}(y:Nat)(h:x*2 ^ (min q 64)=y)(hy:y<9223372036854775808):Value.int .i64 (IntKind.i64.wrap ((x:Int)*2 ^ (min ((q:Int).toNat) IntKind.i64.bits))) = .int .i64 (y:Int):=by
 have e:(x:Int)*2 ^ (min ((q:Int).toNat) IntKind.i64.bits)=(y:Int):=by
  show(x:Int)*2 ^ (min q 64)=_
  grind
 grind [cz,fZ]
end Go.Proofs.YtjpboghdolfekaaGreatDoor
namespace Go.SL
def uv(n:Nat):List UInt8:=if n<128 then [UInt8.ofNat n]else UInt8.ofNat (n%128+128)::uv (n/128)
termination_by n
decreasing_by omega
theorem gV{n:Nat}(h:n<128):uv n=[UInt8.ofNat n]:=by rw[uv,if_pos h]
theorem D2{n:Nat}(h:¬n<128):uv n=UInt8.ofNat (n%128+128)::uv (n/128):=by rw[uv,if_neg h]
def uP:∀(k n:Nat),n<128 ^ (k+1)→(uv n).length≤k+1
 | 0,n,h=>by rw[gV (by simpa using h)];simp
 | k+1,n,h=>by
  by_cases hn:n<128
  ·rw[gV hn];simp
  ·rw[D2 hn,List.length_cons]
   have:=uP k (n/128) (Nat.div_lt_of_lt_mul (by rw[Nat.pow_succ,Nat.mul_comm]at h;exact h))
   omega
theorem om{n:Nat}(h:n<18446744073709551616):(uv n).length≤10:=uP 9 n (Nat.lt_of_lt_of_le h (by decide))
theorem Rf(n:Nat):0<(uv n).length:=by
 grind [gV,D2]
theorem adU(m:Nat):Value.int .u8 (IntKind.u8.wrap (m:Int)) = .int .u8 ((m%256:Nat):Int):=by
 have h:IntKind.u8.wrap (m:Int)=(m:Int)%256:=by simp[IntKind.wrap,IntKind.bits,IntKind.signed]
 grind
theorem OT(m:Nat):Value.int .u8 (IntKind.u8.wrap ((BitVec.ofInt IntKind.u8.bits ((m%256:Nat):Int) ||| BitVec.ofInt IntKind.u8.bits 128).toNat:Int))=u8 (UInt8.ofNat (m%128+128)):=by
 rw[LK _ aj]
 simp only[u8,UInt8.toNat_ofNat']
 grind
def sK:Nat→Nat→List UInt8→Option (Nat × List UInt8 × Bool)
 | _,_,[]=>none
 | i,acc,c::r=>if i=10∨(i=9∧1<c.toNat)then none else if c.toNat<128 then some (acc+c.toNat*2 ^ (7*i),r,decide (i=0∨0<c.toNat))else sK (i+1) (acc+(c.toNat%128)*2 ^ (7*i)) r
def cQ(bs:List UInt8):Nat × List UInt8 × Bool:=(sK 0 0 bs).getD (0,[],false)
def dj(bs:List UInt8):Option Nat:=if(cQ bs).2.2=true∧(cQ bs).2.1=[]then some (cQ bs).1 else none
theorem Gy{i acc c:Nat}(ha:acc<2 ^ (7*i))(hc:c<128):acc+c*2 ^ (7*i)<2 ^ (7*(i+1)):=by
 have h1:acc+c*2 ^ (7*i)<(c+1)*2 ^ (7*i):=by rw[Nat.add_mul,Nat.one_mul];omega
 have h2:(c+1)*2 ^ (7*i)≤128*2 ^ (7*i):=Nat.mul_le_mul_right _ aj
 grind
theorem Ou{i acc c:Nat}(hi:i≤9)(ha:acc<2 ^ (7*i))(hc:c<128)(h9:i=9→c≤1):acc+c*2 ^ (7*i)<18446744073709551616:=by
 by_cases h:i=9
 ·grind
 ·have h1:=Gy ha hc
  have h2:2 ^ (7*(i+1))≤2 ^ 63:=Nat.pow_le_pow_right aj aj
  omega
def nO(bs:List UInt8):Option (Nat × Nat) :=
 if 1≤bs.length then match dj (bs.take 1)with
  | some n=>some (1,n)
  | none=>if 2≤bs.length then(dj (bs.take 2)).map fun n=>(2,n)else none
 else none
theorem mO{bs:List UInt8}{n:Nat}(h:dj bs=some n)(hl:bs.length≤2):n<16384:=by
 unfold dj cQ at h
 split at h
 ·rename_i hh
  cases h
  match bs,hl with
  | [],_=>simp[sK]at hh
  | [a],_ =>
   grind [sK]
  | [a,b],_ =>
   grind [sK]
 ·cases h
end Go.SL
namespace Go.Proofs.YtjpboghdolfekaaGreatDoor
open Go Go.SL
variable{A:HP}{bs:List UInt8}{n:Nat}{a:Option Addr}
attribute [local irreducible] J K aw Ends ag aH au bE aW aJ a6 aZ
def kR(n:Nat)(h:n<18446744073709551616):aw Tryz.prog 270 [.int .u64 (n:Int)] [] (fun r H=>H=[aH 5 1 r (uv n).length (bV (uv n))]):=by
 refine aw.ao Tryz.func270 Tryz.ntmps270 fun G F R hE=>?_
 refine go ?_
 first|refine ai (bp 5 1 none _) ?_|refine aR (bp 5 1 none _) ?_
 have aeI:=om h
 refine bj (fun s:Nat × List UInt8 × Value=>s.2.1++uv s.1=uv n∧s.1≤n) (fun s=>s.1)
  (fun s=>[(0,.int .u64 (s.1:Int)),(3,s.2.2)])
  (fun s=>aH 5 1 s.2.2 s.2.1.length (bV s.2.1)::F) (n,[],.slice none 0 0) ⟨rfl,Nat.le_refl _⟩ rfl bO ah ?_
 rintro⟨m,done,v⟩⟨hm,hmn⟩ ih
 simp only at hm hmn
 have hlen:done.length+(uv m).length≤10:=by rw[← List.length_append,hm];exact aeI
 have nv:=Rf m
 first|refine aM 0 rfl ?_|refine cU 0 rfl ?_
 rintro va vc hve
 simp only at hve
 subst hve
 refine go ?_
 refine aD zr zr ?_ ?_
 ·intro eN
  simp only at eN
  have Au:¬m<128:=by omega
  refine go ?_
  refine kr zr zr zr zr zr zr ?_
  refine aC 10 (.int .u8 ((m%256:Nat):Int)) rfl (adU m) (go ?_)
  refine aC 11 (u8 (UInt8.ofNat (m%128+128))) rfl (OT m) ?_
  refine aq (cs:=bV [UInt8.ofNat (m%128+128)]) zr zr zr zr zr zr zr zr zr bq ?_
  intro b1
  refine aU (mm:=1) (news:=bV [UInt8.ofNat (m%128+128)]) 1 0 zr zr zr zr zr zr zr zr zr zr zr zr (Vw.ag rfl) rfl (dL _) (by simp only;omega) (by show(_+1)*1≤_;simp only;omega) (fun _=>rfl) bq ?_
  intro v1
  rw[show bV done++bV [UInt8.ofNat (m%128+128)]=bV (done++[UInt8.ofNat (m%128+128)])from by simp[bV],show done.length+1=(done++[UInt8.ofNat (m%128+128)]).length from by simp]
  first|refine aM 1 rfl ?_|refine cU 1 rfl ?_
  rintro wa wc rfl
  refine go ?_
  refine fL zr zr zr aj ?_
  refine aC 7 (.int .u64 ((m/128:Nat):Int)) rfl (congrArg (Value.int .u64) (by show(m:Int)/128=_;omega)) ?_
  refine go ?_
  refine aK ih (m/128,done++[UInt8.ofNat (m%128+128)],_) rfl ⟨by simp only[List.append_assoc,List.singleton_append];rw[← D2 Au];exact hm,by simp only;omega⟩ (by simp only;omega) bO ah
 ·intro cB
  simp only at cB
  have nu:m<128:=by omega
  refine go ?_
  refine aC 16 (u8 (UInt8.ofNat m)) rfl (by simp only[u8,UInt8.toNat_ofNat'];congr 1;omega) ?_
  refine aq (cs:=bV [UInt8.ofNat m]) zr zr zr zr zr zr zr zr zr bq ?_
  intro b1
  refine aU (mm:=1) (news:=bV [UInt8.ofNat m]) 1 0 zr zr zr zr zr zr zr zr zr zr zr zr (Vw.ag rfl) rfl (dL _) (by simp only;omega) (by show(_+1)*1≤_;simp only;omega) (fun _=>rfl) bq ?_
  intro v1
  rw[show bV done++bV [UInt8.ofNat m]=bV (uv n)from by rw[← hm,gV nu];simp[bV],show done.length+1=(uv n).length from by rw[← hm,gV nu];simp]
  refine go ?_
  first|refine aL hE Tryz.func270 rfl _ zr zr ah|refine bB hE Tryz.func270 rfl _ zr zr ah
theorem yD{x q y:Nat}(hq:q≤64)(h:x*2 ^ q=y)(hy:y<18446744073709551616):Value.int .u64 (IntKind.u64.wrap ((x:Int)*2 ^ (min ((q:Int).toNat) IntKind.u64.bits))) = .int .u64 (y:Int):=by
 have e:(x:Int)*2 ^ (min ((q:Int).toNat) IntKind.u64.bits)=(y:Int):=by
  show(x:Int)*2 ^ (min q 64)=_
  grind
 grind [cz,fZ]
def Ce(A:HP):Vw A (.slice none 0 0) ([]:List UInt8).length (bV []):=⟨none,0,rfl,.inl rfl⟩
set_option maxRecDepth 20000 in
theorem Hn(A:HP)(v:Value)(bs:List UInt8)(hv:Vw A v bs.length (bV bs))(fF:∃a c,v = .slice a bs.length c∧bs.length≤c)(hl:bs.length≤9223372036854775807) :
    aw Tryz.prog 327 [v] [A] (fun r H=>∃rv,r = .tuple #[.int .u64 ((cQ bs).1:Int),rv,.bool (cQ bs).2.2]∧(Vw A rv (cQ bs).2.1.length (bV (cQ bs).2.1)∧∃a c,rv = .slice a (cQ bs).2.1.length c∧(cQ bs).2.1.length≤c)∧H=[A]):=by
  obtain⟨a0,c0,rfl,sF⟩:=fF
  refine aw.ao Tryz.func327 Tryz.ntmps327 fun G F R hE=>?_
  refine go ?_
  refine bj (fun s:Nat × Nat=>s.1≤bs.length∧s.1≤10∧(s.1≤9→s.2<2 ^ (7*s.1))∧sK 0 0 bs=sK s.1 s.2 (bs.drop s.1)) (fun s=>bs.length-s.1)
    (fun s=>[(0,.slice a0 bs.length c0),(5,.int .u64 (s.2:Int)),(8,.slice a0 bs.length c0),(9,.int .i64 bs.length),(10,.int .i64 s.1)])
    (fun _=>A::F) (0,0) ⟨Nat.zero_le _,aj,by simp,by simp⟩ rfl bO ah ?_
  rintro⟨i,acc⟩⟨hi,vY,gP,lg⟩ ih
  simp only at hi vY gP lg
  refine go ?_
  refine aD zr zr ?_ ?_
  case' refine_2 =>
    intro eN
    simp only at eN
    have I5:cQ bs=(0,[],false):=by
      grind [cQ,sK]
    refine go ?_
    rw[I5]at hE
    first|refine ad hE Tryz.func327 zr zr ⟨_,rfl,⟨Ce A,none,0,rfl,Nat.le_refl _⟩,rfl⟩|refine bB hE Tryz.func327 rfl _ rfl ⟨_,rfl,⟨Ce A,none,0,rfl,Nat.le_refl _⟩,rfl⟩ ah
  intro cB
  simp only at cB
  have dP:i<bs.length:=by omega
  obtain⟨ba,oa,ca,eR⟩:=Nc hv aj
  simp only[Value.slice.injEq,true_and]at eR
  obtain⟨rfl,rfl⟩:=eR
  obtain⟨c,hc⟩:∃c,bs[i]?=some c:=⟨bs[i],by simp⟩
  have hdr:bs.drop i=c::bs.drop (i+1):=by
    rw[List.drop_eq_getElem_cons dP];congr 1
    grind
  have QY:c.toNat<256:=c.toNat_lt
  rw[hdr]at lg
  simp only[sK]at lg
  refine go ?_
  refine bD i zr zr zr zr zr zr zr zr dP ?_
  refine aP 0 i zr zr zr hv rfl (sQ hc) zr zr ?_
  repeat'(first|(with_reducible intro kQ)|refine eK ?_|refine nL ?_ ?_|refine ew zr zr zr zr ?_ ?_|refine aD zr zr ?_ ?_)
  case' refine_1 =>
    have jC:(i=10∨(i=9∧1<c.toNat)):=by simp only at *;omega
  case' refine_2.refine_1.refine_1 =>
    have jC:(i=10∨(i=9∧1<c.toNat)):=by simp only at *;omega
  case' refine_2.refine_1.refine_2 => 
    have q4:¬(i=10∨(i=9∧1<c.toNat)):=by simp only at *;omega
  case' refine_2.refine_2 => 
    have q4:¬(i=10∨(i=9∧1<c.toNat)):=by simp only at *;omega
  any_goals (
    have I5:cQ bs=(0,[],false):=by unfold cQ;rw[lg,if_pos jC];rfl
    rw[I5]at hE
    (first|refine ad hE Tryz.func327 zr zr ⟨_,rfl,⟨Ce A,none,0,rfl,Nat.le_refl _⟩,rfl⟩|refine bB hE Tryz.func327 rfl _ rfl ⟨_,rfl,⟨Ce A,none,0,rfl,Nat.le_refl _⟩,rfl⟩ ah))
  all_goals(
    have hi9:i≤9:=by omega
    have hac:=gP hi9
    have QK:c.toNat%128<128:=Nat.mod_lt _ aj
    have Q0:=Ou (c:=c.toNat%128) hi9 hac QK (by intro h;omega)
    refine aC 27 (.int .u8 ((c.toNat%128:Nat):Int)) rfl (congrArg (Value.int .u8) (AL _ QY)) (go ?_)
    refine iG zr zr zr (by simp only[fZ];omega) ?_
    refine aC 30 (.int .i64 ((7*i:Nat):Int)) rfl (congrArg (Value.int .i64) (by simp only;omega)) ?_
    refine l4 zr zr zr aj ?_
    refine aC 31 (.int .u64 ((c.toNat%128*2 ^ (7*i):Nat):Int)) rfl (yD aj rfl aj) (go ?_)
    refine aQ 5 (.int .u64 ((acc+c.toNat%128*2 ^ (7*i):Nat):Int)) rfl (congrArg (Value.int .u64) (ZV hac Q0)) (go ?_)
    refine aD zr zr ?_ ?_
    · intro agd
      have hcm:c.toNat%128=c.toNat:=by omega
      have k7:cQ bs=(acc+c.toNat%128*2 ^ (7*i),bs.drop (i+1),decide (i=0∨0<c.toNat)):=by
        grind [cQ]
      refine aO (fun w=>Sat G w ([])) (k5 0 14 .nil) rfl ae ae ae dv ?_
      refine go ?_
      refine bo (p:=(i:Int)+1) (q:=(bs.length:Int)) zr zr zr zr zr zr zr aj aj (.inl rfl) ?_
      refine aC 39 (.slice (sliceAt (some ⟨ba,oa,none⟩) c0 (i+1) 1) (bs.drop (i+1)).length (c0-(i+1))) rfl (by rw[show((i:Int)+1).toNat=i+1 from by omega,show((bs.length:Int)).toNat=bs.length from by omega,List.length_drop];rfl) ?_
      have Cx:Vw A (.slice (sliceAt (some ⟨ba,oa,none⟩) c0 (i+1) 1) (bs.drop (i+1)).length (c0-(i+1))) (bs.drop (i+1)).length (bV (bs.drop (i+1))):=by
        have:=hv.JA (s:=1) (by rw[bK];omega) sF (i+1) aj
        rw[List.length_drop,show bV (bs.drop (i+1))=(bV bs).drop ((i+1)*1)from by simp[bV,List.map_drop]]
        exact this
      rw[k7]at hE
      repeat'(first|(with_reducible intro kQ)|refine eK ?_|refine nL ?_ ?_|refine ew zr zr zr zr ?_ ?_|refine aD zr zr ?_ ?_)
      all_goals first
        | (have Jb:i=0:=(by simp only at kQ;omega)
           rw[decide_eq_true (Or.inl Jb:i=0∨0<c.toNat)]at hE
           (first|refine ad hE Tryz.func327 zr zr ⟨_,rfl,⟨Cx,_,_,rfl,by simp only[List.length_drop];omega⟩,rfl⟩|refine bB hE Tryz.func327 rfl _ rfl ⟨_,rfl,⟨Cx,_,_,rfl,by simp only[List.length_drop];omega⟩,rfl⟩ ah))
        | (have Jb:¬i=0:=(by simp only at kQ;omega)
           rw[show decide (i=0∨0<c.toNat)=decide ((0:Int)<(c.toNat:Int))from decide_eq_decide.2 ⟨fun h=>by omega,fun h => .inr aj⟩]at hE
           (first|refine ad hE Tryz.func327 zr zr ⟨_,rfl,⟨Cx,_,_,rfl,by simp only[List.length_drop];omega⟩,rfl⟩|refine bB hE Tryz.func327 rfl _ rfl ⟨_,rfl,⟨Cx,_,_,rfl,by simp only[List.length_drop];omega⟩,rfl⟩ ah))
    · intro afS
      refine go ?_
      refine aK ih (i+1,acc+c.toNat%128*2 ^ (7*i)) rfl ⟨by simp only;omega,by simp only;omega,fun _=>Gy hac QK,by rw[lg,if_neg q4,if_neg aj]⟩ (by simp only;omega) bO ah)
def fb(A:HP)(v:Value)(bs:List UInt8):Prop:=Vw A v bs.length (bV bs)∧∃a c,v = .slice a bs.length c∧bs.length≤c
def fb.cut{c:Nat}(h:fb A (.slice a n c) bs)(p:Nat)(hp:p≤bs.length):fb A (.slice (sliceAt a c p 1) (bs.length-p) (c-p)) (bs.drop p):=by
 obtain⟨hv,a',c',he,hc⟩:=h
 simp only[Value.slice.injEq]at he
 obtain⟨rfl,rfl,rfl⟩:=he
 refine⟨?_,_,_,by rw[List.length_drop],by rw[List.length_drop];omega⟩
 have:=hv.JA (s:=1) (by rw[bK];omega) hc p hp
 rw[List.length_drop,show bV (bs.drop p)=(bV bs).drop (p*1)from by simp[bV,List.map_drop]]
 exact this
def fb.front{c:Nat}(h:fb A (.slice a n c) bs)(q:Nat)(hq:q≤bs.length):fb A (.slice (sliceAt a c 0 1) q c) (bs.take q):=by
 obtain⟨hv,a',c',he,hc⟩:=h
 simp only[Value.slice.injEq]at he
 obtain⟨rfl,rfl,rfl⟩:=he
 have hl:(bs.take q).length=q:=by rw[List.length_take];omega
 refine⟨?_,_,_,by rw[hl],by rw[hl];omega⟩
 have:=hv.adT (s:=1) q
 rw[hl,show bV (bs.take q)=(bV bs).take (q*1)from by simp[bV,List.map_take]]
 exact this
def fb.mono{B:HP}{v:Value}(h:fb A v bs)(hAB:∀h,B h→∃h',sub h' h∧A h'):fb B v bs:=⟨h.1.mono hAB,h.2⟩
theorem fb.piece{c:Nat}(h:fb A (.slice a n c) bs)(p q:Nat)(hp:p≤q)(hq:q≤bs.length):fb A (.slice (sliceAt a c p 1) (q-p) (c-p)) ((bs.drop p).take (q-p)):=by
 have h1:=h.cut p aj
 obtain⟨hv,a',c',he,hc⟩:=h1
 have hlen:((bs.drop p).take (q-p)).length=q-p:=by rw[List.length_take,List.length_drop];omega
 refine⟨?_,_,_,by rw[hlen],by rw[hlen];obtain⟨_,_,_,Fi,hc2⟩:=h;simp only[Value.slice.injEq]at Fi;omega⟩
 obtain⟨a2,qj,Fi,h0|⟨b,o,ha,hc2⟩⟩:=hv
 ·simp only[Value.slice.injEq]at Fi
  have:(bs.drop p)=[]:=by simpa[bV]using h0
  refine⟨_,_,by rw[hlen],.inl ?_⟩
  grind
 ·simp only[Value.slice.injEq]at Fi
  refine⟨_,_,by rw[hlen],.inr ⟨b,o,by rw[Fi.1,ha],fun h' hA j x hj=>?_⟩⟩
  grind [bV]
def kT(A:HP)(v:Value)(bs:List UInt8)(hv:fb A v bs)(hl:bs.length≤9223372036854775807) :
  aw Tryz.prog 316 [v] [A] (fun r H=>r=(match dj bs with
   | some n => .tuple #[.int .u64 (n:Int),.int .i64 0]
   | none => .tuple #[.int .u64 0,.int .i64 2])∧H=[A]):=by
 refine aw.ao Tryz.func316 Tryz.ntmps316 fun G F R hE=>?_
 refine go ?_
 refine az (Hn A v bs hv.1 hv.2 hl) ?_
 rintro _ _⟨rv,rfl,⟨Cx,a,c,rfl,_⟩,rfl⟩
 cases mL:(cQ bs).2.2 with
 | false =>
  have hn:dj bs=none:=by unfold dj;rw[if_neg (by rw[mL];simp)]
  rw[hn]at hE
  refine go ?_
  refine ad hE Tryz.func316 zr zr ⟨rfl,rfl⟩
 | true =>
  repeat'(first|(with_reducible intro kQ)|refine eK ?_|refine aD zr zr ?_ ?_)
  ·have hn:dj bs=none:=by unfold dj;rw[if_neg (fun h=>by rw[h.2]at kQ;simp at kQ)]
   rw[hn]at hE
   refine ad hE Tryz.func316 zr zr ⟨rfl,rfl⟩
  ·have hn:dj bs=some (cQ bs).1:=by unfold dj;rw[if_pos ⟨mL,List.eq_nil_of_length_eq_zero aj⟩]
   rw[hn]at hE
   refine ad hE Tryz.func316 zr zr ⟨rfl,rfl⟩
def eo(bs:List UInt8):List UInt8:=uv bs.length++bs
end Go.Proofs.YtjpboghdolfekaaGreatDoor
namespace Go.Proofs.YtjpboghdolfekaaGreatDoor
open Go Go.SL
theorem GA{e:TypeId}{v:Value}{bs:List UInt8}(h0:∃h,aH e 1 v bs.length (bV bs) h):fb (aH e 1 v bs.length (bV bs)) v bs:=by
 refine⟨Vw.lV e 1 v bs.length (bV bs) h0,?_⟩
 obtain⟨h,hl,⟨a,rfl,hn,_⟩|⟨b,o,cap,pre,junk,rfl,hp,hn,hc,_⟩⟩:=h0
 ·simp_all
 grind
section
variable{P:Program}{f:FuncId}{n:Nat}{R:Ending→World→Prop}{G:cg}{k:List Item}{L:eC}{H:List HP}{S:World→Prop}{all:Array Oper}{rest:Pl}
def iA{e:TypeId}{v:Value}{bs:List UInt8}(i:Nat)(hi:bU H i=some (aH e 1 v bs.length (bV bs)))(h:fb (aH e 1 v bs.length (bV bs)) v bs→J P f n R G S all rest k L H):J P f n R G S all rest k L H :=
 xk fun w hw=>by
  obtain⟨h1,_,hA⟩:=hw.jM hi
  exact h (GA ⟨h1,hA⟩)
def xe{e:TypeId}{v:Value}{bs:List UInt8}(i:Nat)(hi:bU H i=some (aH e 1 v bs.length (bV bs)))(h:fb (aH e 1 v bs.length (bV bs)) v bs→K P f n R G k L H):K P f n R G k L H :=
 oZ fun⟨w,hw⟩=>by
  obtain⟨h1,_,hA⟩:=hw.jM hi
  exact h (GA ⟨h1,hA⟩)
end
theorem bz{H:List HP}{i:Nat}{A:HP}(hi:bU H i=some A):∀h,Sep H h→∃h',sub h' h∧A h':=fun h hs=>by
 rw[de]at hi
 obtain⟨h',Qz,hA⟩:=ak.perm (cJ hi) h hs
 obtain⟨h1,h2,ha,_,hd,hj⟩:=hA
 refine⟨h1,fun b o hb=>?_,ha⟩
 refine Qz b o ?_
 grind
end Go.Proofs.YtjpboghdolfekaaGreatDoor
namespace Go.Proofs.YtjpboghdolfekaaGreatDoor
open Go Go.SL
def ly(x:Int × List UInt8):List UInt8:=UInt8.ofNat x.1.toNat::(uv x.2.length++x.2)
def eA(l:List (Int × List UInt8)):List UInt8:=l.flatMap ly
def qA:Nat→List UInt8→List (Int × List UInt8)
 | 0,_=>[]
 | f+1,b=>match b with
  | []=>[]
  | c::r=>if(cQ r).2.2=true∧(cQ r).1≤(cQ r).2.1.length then((c.toNat:Int),(cQ r).2.1.take (cQ r).1)::qA f ((cQ r).2.1.drop (cQ r).1)else [(0,[])]
def eP:Int→List (Int × List UInt8)→Bool
 | _,[]=>true
 | last,x::l=>decide (last<x.1) && decide (x.1≤63) && eP x.1 l
def pB(b:List UInt8):Option (List (Int × List UInt8)):=if 65536<b.length then none else if eP 0 (qA b.length b)then some (qA b.length b)else none
structure It where
 n:Int
 v:Value
 b:List UInt8
instance:Inhabited It:=⟨⟨0,.slice none 0 0,[]⟩⟩
def kf(x:It):List Value:=[.int .i64 x.n,x.v]
theorem ij(x:It):(kf x).length=2:=rfl
def It.p(x:It):Int × List UInt8:=(x.n,x.b)
def rN(X:HP)(v:Value)(l:List It):Prop:=Vw X v l.length (l.flatMap kf)∧∀x∈l,fb X x.v x.b
theorem BV(a b:List (Int × List UInt8)):eA (a++b)=eA a++eA b:=by simp[eA]
theorem yK(l:List (Int × List UInt8))(i:Nat):(eA (l.take i)).length≤(eA l).length:=by
 conv=>rhs;rw[← List.take_append_drop i l]
 grind [BV]
def nP(l:List (Int × List UInt8))(i:Nat):Int:=match (l.take i).getLast? with
 | some x=>x.1
 | none=>0
theorem Lg:∀(l:List (Int × List UInt8)) (last:Int) (i:Nat) (x:Int × List UInt8),eP last l=true→l[i]?=some x→(match (l.take i).getLast? with|some y=>y.1|none=>last)<x.1∧x.1≤63:=by
 intro l
 induction l with
 | nil=>intro last i x h hx;simp at hx
 | cons y l ih =>
  grind [eP]
theorem vM{l:List (Int × List UInt8)}{i:Nat}{x:Int × List UInt8}(h:l[i]?=some x):nP l (i+1)=x.1:=by
 grind [nP]
theorem Le:∀(l:List (Int × List UInt8)) (last:Int),eP last l=true→0≤last→∀x∈l,0<x.1:=by
 intro l
 induction l with
 | nil=>intro last h h0 x hx;cases hx
 | cons y l ih =>
  grind [eP]
theorem M3:∀(bs:List UInt8) (i acc n:Nat) (r:List UInt8) (ok:Bool),sK i acc bs=some (n,r,ok)→r.length<bs.length:=by
 intro bs
 induction bs with
 | nil=>intro i acc n r ok h;simp[sK]at h
 | cons c bs ih =>
  grind [sK]
theorem oT(bs:List UInt8):(cQ bs).2.1.length≤bs.length:=by
 unfold cQ
 cases h:sK 0 0 bs with
 | none=>simp
 | some x =>
  have:=M3 bs 0 0 _ _ _ h
  grind
theorem yu:∀(f g:Nat) (b:List UInt8),b.length≤f→b.length≤g→qA f b=qA g b
 | 0,0,_,_,_=>rfl
 | 0,g+1,b,hf,_=>by
  have:b=[]:=List.eq_nil_of_length_eq_zero aj
  subst this;rfl
 | f+1,0,b,_,hg=>by
  have:b=[]:=List.eq_nil_of_length_eq_zero aj
  subst this;rfl
 | f+1,g+1,[],_,_=>rfl
 | f+1,g+1,c::r,hf,hg=>by
  rw[qA,qA]
  have:=oT r
  rw[List.length_cons]at hf hg
  split
  ·rw[yu f g _ (by grind) (by grind)]
  ·rfl
def dY(b:List UInt8):List (Int × List UInt8):=qA b.length b
theorem uU:dY []=[]:=rfl
theorem yv{c:UInt8}{r:List UInt8}(h:(cQ r).2.2=true∧(cQ r).1≤(cQ r).2.1.length):dY (c::r)=((c.toNat:Int),(cQ r).2.1.take (cQ r).1)::dY ((cQ r).2.1.drop (cQ r).1):=by
 grind [oT,dY,qA,yu]
theorem Bv{c:UInt8}{r:List UInt8}(h:¬((cQ r).2.2=true∧(cQ r).1≤(cQ r).2.1.length)):dY (c::r)=[(0,[])]:=by
 grind [dY,qA]
theorem qB:∀(f:Nat) (b:List UInt8),b.length≤f→(dY b).length≤b.length
 | 0,b,h=>by
  grind [uU]
 | f+1,[],_=>by simp[uU]
 | f+1,c::r,h=>by
  have h1:=oT r
  rw[List.length_cons]at h
  by_cases hk:(cQ r).2.2=true∧(cQ r).1≤(cQ r).2.1.length
  ·have h2:=qB f ((cQ r).2.1.drop (cQ r).1) (by grind)
   grind [yv]
  grind [Bv]
def q9(xs:List (Int × List UInt8))(i:Nat):Bool:=match xs[i]? with
 | some x=>decide (nP xs i<x.1) && decide (x.1≤63)
 | none=>true
def wg{xs:List (Int × List UInt8)}{i:Nat}{x:Int × List UInt8}(h:xs[i]?=some x):q9 xs i=(decide (nP xs i<x.1) && decide (x.1≤63)):=by unfold q9;rw[h]
theorem Lh:∀(l:List (Int × List UInt8)) (last:Int),(eP last l=true↔∀i x,l[i]?=some x→(match (l.take i).getLast? with|some y=>y.1|none=>last)<x.1∧x.1≤63):=by
 intro l
 induction l with
 | nil=>intro last;simp[eP]
 | cons y l ih =>
  intro last
  simp only[eP,Bool.and_eq_true,ih]
  constructor
  ·grind
  ·intro h
   refine⟨by simpa using h 0 y rfl,fun i x hx=>?_⟩
   have:=h (i+1) x (by grind)
   grind
def yI(xs:List (Int × List UInt8)):eP 0 xs=true↔∀i,i<xs.length→q9 xs i=true:=by
 rw[Lh]
 constructor
 ·intro h i hi
  have hx:xs[i]?=some xs[i]:=by simp
  rw[wg hx,Bool.and_eq_true,decide_eq_true_eq,decide_eq_true_eq]
  exact h i _ hx
 ·intro h i x hx
  have:=h i (List.getElem?_eq_some_iff.1 hx).1
  rw[wg hx,Bool.and_eq_true,decide_eq_true_eq,decide_eq_true_eq]at this
  exact this
def fA(b:List UInt8):Dg:=cI 0 [b]
def jR(l r:Dg):Dg:=cI 1 [l.bs,r.bs]
def dQ:List Dg→List Dg
 | a::b::r=>jR a b::dQ r
 | l=>l
theorem e9:∀l:List Dg,(dQ l).length=(l.length+1)/2
 | []=>rfl
 | [a]=>by simp[dQ]
 | a::b::r=>by simp only[dQ,List.length_cons,e9 r];omega
theorem ql:∀(l:List Dg) (i:Nat),(dQ l)[i]?=match l[2*i]?,l[2*i+1]? with
  | some a,some b=>some (jR a b)
  | x,_=>x
 | [],i=>by simp[dQ]
 | [a],i=>by
  cases i with
  | zero=>rfl
  | succ i=>simp[dQ,show 2*(i+1)=2*i+1+1 from by omega]
 | a::b::r,i=>by
  cases i with
  | zero=>rfl
  | succ i =>
   simp only[dQ,List.getElem?_cons_succ,show 2*(i+1)=2*i+1+1 from by omega]
   exact ql r i
def upL:Nat→List Dg→List Dg
 | 0,l=>l
 | f+1,l=>if l.length≤1 then l else upL f (dQ l)
def BQ(l:List Dg):Dg:=if l=[]then cI 2 []else((upL l.length l).head?).getD Dg.zero
structure Bl where
 d:Dg
 size:Int
 piece:Int
 root:Dg
deriving DecidableEq
instance:Inhabited Bl:=⟨⟨Dg.zero,0,0,Dg.zero⟩⟩
def Bl.zero:Bl:=⟨Dg.zero,0,0,Dg.zero⟩
def dN(x:Bl):List Value:=dC x.d++[.int .i64 x.size,.int .i64 x.piece]++dC x.root
def AH(x:Bl):(dN x).length=66:=rfl
def bY(x:Bl):Bool:=decide (1≤x.size∧x.size≤1048576∧16≤x.piece∧x.piece≤16384∧(x.size+x.piece-1)/x.piece≤1024)
def fT(x:Bl):Int:=if bY x then(x.size+x.piece-1)/x.piece else 0
def qG(x:Bl)(i:Int):Option (Int × Int):=if i<0∨fT x≤i then none else some (i*x.piece,min x.piece (x.size-i*x.piece))
def gL(k:Nat):Nat→List UInt8→List (List UInt8)
 | 0,_=>[]
 | f+1,b=>if b=[]then []else b.take k::gL k f (b.drop k)
def gN(b:List UInt8)(piece:Int):Option (List Dg):=if bY ⟨Dg.zero,b.length,piece,Dg.zero⟩then some ((gL piece.toNat b.length b).map fA)else none
def gl(b:List UInt8)(piece:Int):Option Bl:=(gN b piece).map fun l=>⟨ff b,b.length,piece,BQ l⟩
def KE(x:Bl)(b:List UInt8):Bool:=decide (gl b x.piece=some x)
def ot:List Bl→Bool
 | []=>false
 | x::l=>l.any (fun y=>decide (y.d=x.d)) || ot l
def df(l:List Bl):Nat:=if l.length<1∨16<l.length∨l.any (fun x => !bY x)=true then 1 else if ot l then 5 else 0
def dx(x:Bl):List (Int × List UInt8):=[(1,x.d.bs),(2,uv x.size.toNat),(3,uv x.piece.toNat),(4,x.root.bs)]
def ix:Nat→List Bl→List (Int × List UInt8)
 | _,[]=>[]
 | i,x::l=>((i:Int)+1,eA (dx x))::ix (i+1) l
def wA(l:List Bl):List UInt8:=eA (ix 0 l)
def tz(l:List Bl):Dg:=ff (wA l)
def uk(b:List UInt8):Dg:=if h:b.length=32 then⟨b,h⟩else Dg.zero
def lH(b:List UInt8):Option Bl:=match pB b with
 | some [(_,a),(_,s),(_,p),(n,r)]=>if n≠4∨a.length≠32∨r.length≠32 then none else match dj s,dj p with
  | some s,some p=>if 1048576<max s p then none else some ⟨uk a,s,p,uk r⟩
  | _,_=>none
 | _=>none
def ig:Nat→List (Int × List UInt8)→Option (List Bl)
 | _,[]=>some []
 | i,(n,b)::l=>match lH b with
  | some x=>if n≠(i:Int)+1 then none else(ig (i+1) l).map (x::·)
  | none=>none
def wG(b:List UInt8):Option (List Bl):=match pB b with
 | some l=>match ig 0 l with
  | some x=>if df x=0 then some x else none
  | none=>none
 | none=>none
def Gq{n:Nat}(h:n≤1048576):(uv n).length≤3:=uP 2 n aj
def vQ(x:Bl)(h:bY x=true):(eA (dx x)).length≤78:=by
 simp only[bY,decide_eq_true_eq]at h
 have h1:=Gq (n:=x.size.toNat) aj
 have h2:=Gq (n:=x.piece.toNat) aj
 have h3:uv 32=[32]:=by rw[gV aj];rfl
 have h4:(uv (uv x.size.toNat).length).length=1:=by rw[gV aj];rfl
 have h5:(uv (uv x.piece.toNat).length).length=1:=by rw[gV aj];rfl
 simp only[eA,dx,ly,List.flatMap_cons,List.flatMap_nil,List.length_append,List.length_cons,List.length_nil,x.d.len,x.root.len,h3,h4,h5]
 omega
theorem tG:∀(l:List Bl) (i:Nat),i+l.length≤63→eP (i:Int) (ix i l)=true
 | [],i,_=>rfl
 | x::l,i,h=>by
  rw[List.length_cons]at h
  simp only[ix,eP,Bool.and_eq_true,decide_eq_true_eq]
  refine⟨⟨aj,aj⟩,?_⟩
  have:=tG l (i+1) aj
  grind
theorem vO:∀(l:List Bl) (i:Nat),(∀x∈l,bY x=true)→(eA (ix i l)).length≤80*l.length
 | [],i,_=>by simp[ix,eA]
 | x::l,i,h=>by
  have h1:=vQ x (h x (List.mem_cons_self ..))
  have h2:=vO l (i+1) fun y hy=>h y (List.mem_cons_of_mem _ hy)
  have h3:(uv (eA (dx x)).length).length=1:=by rw[gV aj];rfl
  grind [eA,ix,ly]
theorem nr{l:List Bl}(h:df l=0):l.length≤16∧1≤l.length∧∀x∈l,bY x=true:=by
 grind [df]
theorem C0{l:List Bl}(h:df l=0):(wA l).length≤1280:=by
 grind [nr,vO,wA]
theorem Fz{b:List UInt8}{l:List Bl}(h:wG b=some l):df l=0:=by
 grind [wG]
end Go.Proofs.YtjpboghdolfekaaGreatDoor
namespace Go.SL
open Go
def zR(n:Nat):UInt8:=UInt8.ofNat (if n<10 then 48+n else 87+n)
def jX(c:UInt8):Option Nat:=if 48≤c.toNat∧c.toNat≤57 then some (c.toNat-48)else if 97≤c.toNat∧c.toNat≤102 then some (c.toNat-87)else none
def qu(s:List UInt8)(i:Nat):Nat:=(jX (s.getD i 0)).getD 0
def s9(d:Dg)(i:Nat):UInt8:=zR (if i%2=0 then(d.at (i/2)).toNat/16 else(d.at (i/2)).toNat%16)
def gX(d:Dg):List UInt8:=(List.range 64).map (s9 d)
theorem mf(d:Dg):(gX d).length=64:=by simp[gX]
def mh(d:Dg){i:Nat}(h:i<64):(gX d)[i]?=some (s9 d i):=by simp[gX,h]
def DU(s:List UInt8)(i:Nat):List UInt8:=(List.range 32).map fun j=>UInt8.ofNat (if 2*j+1<i then 16*qu s (2*j)+qu s (2*j+1)else if 2*j<i then qu s (2*j)else 0)
theorem lr(s:List UInt8)(i:Nat):(DU s i).length=32:=by simp[DU]
theorem qP(s:List UInt8)(i:Nat){j:Nat}(h:j<32):(DU s i)[j]?=some (UInt8.ofNat (if 2*j+1<i then 16*qu s (2*j)+qu s (2*j+1)else if 2*j<i then qu s (2*j)else 0)):=by simp[DU,h]
theorem LD(s:List UInt8):DU s 0=List.replicate 32 0:=by
 apply List.ext_getElem?
 grind [qP,lr]
theorem Pw{c:UInt8}{v:Nat}(h:jX c=some v):v<16:=by
 grind [jX]
theorem Ak(s:List UInt8)(i:Nat):qu s i<16:=by
 grind [qu,jX,Pw]
def MM{n:Nat}(h:n<16):jX (zR n)=some n:=by
 have:∀n:Nat,n<16→jX (zR n)=some n:=by decide
 exact this n h
theorem K3{c:UInt8}{v:Nat}(h:jX c=some v):zR v=c:=by
 apply UInt8.toNat.inj
 unfold jX at h
 unfold zR
 simp only[UInt8.toNat_ofNat']
 grind
def iP(s:List UInt8):Option Dg:=if s.length=64∧∀c∈s,jX c≠none then some ⟨DU s 64,lr s 64⟩else none
theorem uE{s:List UInt8}{i:Nat}{c:UInt8}(h:s[i]?=some c):s.getD i 0=c:=by rw[List.getD_eq_getElem?_getD,h];rfl
def u'(d:Dg)(i:Nat):jX (s9 d i)=some (if i%2=0 then(d.at (i/2)).toNat/16 else(d.at (i/2)).toNat%16):=by
 have:=(d.at (i/2)).toNat_lt
 exact MM (by split <;> omega)
def Dg.Ng(d:Dg){j:Nat}(h:j<32):d.bs[j]?=some (d.at j):=by
 unfold Dg.at
 rw[List.getD_eq_getElem?_getD,List.getElem?_eq_getElem (by rw[d.len];exact h)];rfl
theorem EF(d:Dg):iP (gX d)=some d:=by
  unfold iP
  rw[if_pos ⟨mf d,fun c hc=>by
    obtain⟨i,hi,rfl⟩:=List.mem_map.1 hc
    rw[u'];simp⟩]
  congr 1
  obtain⟨bs,hl⟩:=d
  simp only[Dg.mk.injEq]
  apply List.ext_getElem?
  intro j
  rcases Nat.lt_or_ge j 32 with h|h
  · rw[qP _ _ h,if_pos aj,(⟨bs,hl⟩:Dg).Ng h]
    unfold qu
    rw[uE (mh _ (show 2*j<64 by omega)),uE (mh _ (show 2*j+1<64 by omega)),u',u']
    simp only[Option.getD_some,Option.some.injEq]
    rw[if_pos aj,if_neg aj,show 2*j/2=j from by omega,show(2*j+1)/2=j from by omega]
    apply UInt8.toNat.inj
    simp only[UInt8.toNat_ofNat']
    have:=((⟨bs,hl⟩:Dg).at j).toNat_lt
    omega
  grind [lr]
theorem D4{s:List UInt8}{d:Dg}(h:iP s=some d):s=gX d:=by
 unfold iP at h
 split at h
 ·rename_i hs
  cases h
  apply List.ext_getElem?
  intro i
  rcases Nat.lt_or_ge i 64 with hi|hi
  ·rw[mh _ hi]
   obtain⟨c,hc⟩:∃c,s[i]?=some c:=⟨s[i],List.getElem?_eq_getElem aj⟩
   rw[hc]
   congr 1
   obtain⟨v,hv⟩:=Option.ne_none_iff_exists'.1 (hs.2 c (List.mem_of_getElem? hc))
   rw[← K3 hv]
   unfold s9
   congr 1
   have hat:(Dg.at ⟨DU s 64,lr s 64⟩ (i/2))=UInt8.ofNat (16*qu s (2*(i/2))+qu s (2*(i/2)+1)):=by
    grind [Dg.at,uE,qP]
   rw[hat]
   have h1:=Ak s (2*(i/2))
   have h2:=Ak s (2*(i/2)+1)
   have h3:qu s i=v:=by unfold qu;rw[uE hc,hv];rfl
   simp only[UInt8.toNat_ofNat']
   grind
  grind [mf]
 ·cases h
def eZ(kind:List UInt8)(d:Dg):ByteArray:=strOf (kind++gX d)
def gk(kind:List UInt8)(name:ByteArray):Option Dg:=if kind.isPrefixOf name.data.toList then iP (name.data.toList.drop kind.length)else none
theorem uX(l:List UInt8):(strOf l).data.toList=l:=by simp[strOf]
theorem y7{kind:List UInt8}{name:ByteArray}{d:Dg}:gk kind name=some d↔name=eZ kind d:=by
 unfold gk eZ
 constructor
 ·intro h
  split at h
  ·rename_i hp
   have h2:=D4 h
   obtain⟨t,ht⟩:=List.isPrefixOf_iff_prefix.1 hp
   grind [uY]
  ·cases h
 grind [uX,EF]
end Go.SL
namespace Go.Proofs.YtjpboghdolfekaaGreatDoor
open Go Go.SL
def ptr(f:Nat):Value := .pointer (some ⟨f,0,none⟩)
attribute [local irreducible] J K aw Ends ag aH au bE aW
theorem gI(A:HP)(v:Value)(bs:List UInt8)(hv:Vw A v bs.length (bV bs))(hlen:bs.length≤1000000000) :
  aw Tryz.prog 59 [v] [A] (fun r H=>H=[aH 5 1 r bs.length (bV bs),A]):=by
 obtain⟨a,c0,rfl⟩:=hv.shape
 cases a with
 | none =>
  have hb:bs=[]:=by
   obtain⟨a,cap,h1,h2|⟨b,o,h2,_⟩⟩:=hv
   ·simpa[bV]using h2
   grind
  subst hb
  refine aw.enter Tryz.func59 ae rfl Tryz.ntmps59 zr zr ?_
  intro G F R hR
  refine go ?_
  have he:c0=c0:=rfl
  refine ai (bp 5 1 none _) ?_
  refine aL hR Tryz.func59 rfl _ zr zr (ak.fin [0,1] 0 zr zr)
 | some a =>
  refine aw.enter Tryz.func59 ae rfl Tryz.ntmps59 zr zr ?_
  intro G F R hR
  refine go ?_
  refine aq zr zr zr zr zr zr zr zr zr bq ?_
  intro b0
  refine go ?_
  refine aR (eW 5 1 b0 0 0 [] [] _ rfl (Nat.le_refl _) (by simp)) ?_
  refine aU (mm:=bs.length) (news:=bV bs) 0 1 zr zr zr zr zr zr zr zr zr zr zr zr hv (by show _=_*1;rw[bK];omega) (dL bs) aj (by show _*1≤_;omega) (fun _=>rfl) bq ?_
  intro v'
  have e1:(0:Nat)+bs.length=bs.length:=by omega
  rw[e1,List.nil_append]
  refine go ?_
  refine aL hR Tryz.func59 rfl _ zr zr (ak.fin [0,1] 0 zr zr)
end Go.Proofs.YtjpboghdolfekaaGreatDoor
