import Derived.Test.YtedjnjkijiddlaaGreatDoorQPO3
import Derived.Test.YtedjnjkijiddlaaGreatDoorProg
set_option linter.defProp false
set_option linter.unusedSimpArgs false
set_option linter.unusedVariables false
namespace Go.Proofs.YtedjnjkijiddlaaGreatDoor
open Go.SL
def TP(i:TypeId)(a b:TypeInfo):Prop:=Tryz.prog.underlying i=some a.desc∧Tryz.prog.info? i=some b
theorem abQ:TP 1 Tryz.t1 Tryz.t1:=⟨ak,ak⟩
theorem abP:TP 2 Tryz.t2 Tryz.t2:=⟨ak,ak⟩
theorem abO:TP 3 Tryz.t3 Tryz.t3:=⟨ak,ak⟩
theorem abN:TP 4 Tryz.t4 Tryz.t4:=⟨ak,ak⟩
theorem abM:TP 5 Tryz.t5 Tryz.t5:=⟨ak,ak⟩
theorem abL:TP 6 Tryz.t5 Tryz.t6:=⟨ak,ak⟩
theorem abK:TP 7 Tryz.t7 Tryz.t7:=⟨ak,ak⟩
theorem abJ:TP 8 Tryz.t7 Tryz.t8:=⟨ak,ak⟩
theorem abI:TP 9 Tryz.t9 Tryz.t9:=⟨ak,ak⟩
theorem Z3:TP 10 Tryz.t9 Tryz.t10:=⟨ak,ak⟩
theorem Z1:TP 11 Tryz.t9 Tryz.t11:=⟨ak,ak⟩
theorem ZZ:TP 12 Tryz.t12 Tryz.t12:=⟨ak,ak⟩
theorem ZY:TP 13 Tryz.t13 Tryz.t13:=⟨ak,ak⟩
theorem ZX:TP 14 Tryz.t13 Tryz.t14:=⟨ak,ak⟩
theorem ZW:TP 15 Tryz.t15 Tryz.t15:=⟨ak,ak⟩
theorem ZV:TP 16 Tryz.t16 Tryz.t16:=⟨ak,ak⟩
theorem ZU:TP 17 Tryz.t17 Tryz.t17:=⟨ak,ak⟩
theorem ZT:TP 18 Tryz.t18 Tryz.t18:=⟨ak,ak⟩
theorem ZS:TP 19 Tryz.t18 Tryz.t19:=⟨ak,ak⟩
theorem ZR:TP 20 Tryz.t20 Tryz.t20:=⟨ak,ak⟩
theorem ZQ:TP 21 Tryz.t21 Tryz.t21:=⟨ak,ak⟩
theorem ZP:TP 22 Tryz.t22 Tryz.t22:=⟨ak,ak⟩
theorem ZO:TP 23 Tryz.t23 Tryz.t23:=⟨ak,ak⟩
theorem ZN:TP 24 Tryz.t24 Tryz.t24:=⟨ak,ak⟩
theorem ZM:TP 25 Tryz.t3 Tryz.t25:=⟨ak,ak⟩
theorem ZL:TP 27 Tryz.t27 Tryz.t27:=⟨ak,ak⟩
theorem ZK:TP 28 Tryz.t28 Tryz.t28:=⟨ak,ak⟩
theorem ZJ:TP 29 Tryz.t29 Tryz.t29:=⟨ak,ak⟩
theorem ZI:TP 30 Tryz.t30 Tryz.t30:=⟨ak,ak⟩
theorem ZH:TP 31 Tryz.t31 Tryz.t31:=⟨ak,ak⟩
theorem ZG:TP 32 Tryz.t31 Tryz.t32:=⟨ak,ak⟩
theorem ZF:TP 33 Tryz.t33 Tryz.t33:=⟨ak,ak⟩
theorem ZE:TP 34 Tryz.t34 Tryz.t34:=⟨ak,ak⟩
theorem ZD:TP 35 Tryz.t34 Tryz.t35:=⟨ak,ak⟩
theorem ZC:TP 36 Tryz.t36 Tryz.t36:=⟨ak,ak⟩
theorem ZB:TP 37 Tryz.t36 Tryz.t37:=⟨ak,ak⟩
theorem ZA:TP 39 Tryz.t39 Tryz.t39:=⟨ak,ak⟩
theorem Zz:TP 40 Tryz.t40 Tryz.t40:=⟨ak,ak⟩
theorem Zy:TP 41 Tryz.t41 Tryz.t41:=⟨ak,ak⟩
theorem Zx:TP 42 Tryz.t42 Tryz.t42:=⟨ak,ak⟩
theorem Zw:TP 44 Tryz.t44 Tryz.t44:=⟨ak,ak⟩
theorem Zv:TP 45 Tryz.t45 Tryz.t45:=⟨ak,ak⟩
theorem Zu:TP 46 Tryz.t45 Tryz.t46:=⟨ak,ak⟩
theorem Zt:TP 47 Tryz.t47 Tryz.t47:=⟨ak,ak⟩
theorem Zs:TP 48 Tryz.t48 Tryz.t48:=⟨ak,ak⟩
theorem Zr:TP 49 Tryz.t49 Tryz.t49:=⟨ak,ak⟩
theorem Zq:TP 50 Tryz.t50 Tryz.t50:=⟨ak,ak⟩
theorem Zp:TP 51 Tryz.t51 Tryz.t51:=⟨ak,ak⟩
theorem Zo:TP 52 Tryz.t52 Tryz.t52:=⟨ak,ak⟩
theorem Zn:TP 53 Tryz.t53 Tryz.t53:=⟨ak,ak⟩
theorem Zm:TP 54 Tryz.t54 Tryz.t54:=⟨ak,ak⟩
theorem Zl:TP 56 Tryz.t56 Tryz.t56:=⟨ak,ak⟩
theorem Zk:TP 57 Tryz.t57 Tryz.t57:=⟨ak,ak⟩
theorem Zj:TP 58 Tryz.t58 Tryz.t58:=⟨ak,ak⟩
theorem Zi:TP 60 Tryz.t60 Tryz.t60:=⟨ak,ak⟩
theorem Zh:TP 62 Tryz.t62 Tryz.t62:=⟨ak,ak⟩
theorem Zg:TP 64 Tryz.t64 Tryz.t64:=⟨ak,ak⟩
theorem Zf:TP 65 Tryz.t65 Tryz.t65:=⟨ak,ak⟩
theorem Ze:TP 66 Tryz.t66 Tryz.t66:=⟨ak,ak⟩
theorem Zd:TP 67 Tryz.t67 Tryz.t67:=⟨ak,ak⟩
theorem Zc:TP 68 Tryz.t68 Tryz.t68:=⟨ak,ak⟩
theorem Zb:TP 69 Tryz.t69 Tryz.t69:=⟨ak,ak⟩
theorem Za:TP 70 Tryz.t70 Tryz.t70:=⟨ak,ak⟩
theorem Y':TP 71 Tryz.t71 Tryz.t71:=⟨ak,ak⟩
theorem Y9:TP 72 Tryz.t71 Tryz.t72:=⟨ak,ak⟩
theorem Y8:TP 73 Tryz.t73 Tryz.t73:=⟨ak,ak⟩
theorem Y7:TP 74 Tryz.t74 Tryz.t74:=⟨ak,ak⟩
theorem Y6:TP 75 Tryz.t75 Tryz.t75:=⟨ak,ak⟩
theorem Y5:TP 76 Tryz.t75 Tryz.t76:=⟨ak,ak⟩
theorem Y4:TP 78 Tryz.t78 Tryz.t78:=⟨ak,ak⟩
theorem Y3:TP 80 Tryz.t80 Tryz.t80:=⟨ak,ak⟩
theorem Y2:TP 82 Tryz.t82 Tryz.t82:=⟨ak,ak⟩
theorem Y1:TP 83 Tryz.t83 Tryz.t83:=⟨ak,ak⟩
theorem Y0:TP 84 Tryz.t84 Tryz.t84:=⟨ak,ak⟩
theorem YZ:TP 85 Tryz.t85 Tryz.t85:=⟨ak,ak⟩
theorem YY:TP 86 Tryz.t86 Tryz.t86:=⟨ak,ak⟩
theorem YX:TP 87 Tryz.t87 Tryz.t87:=⟨ak,ak⟩
theorem YW:TP 88 Tryz.t87 Tryz.t88:=⟨ak,ak⟩
theorem YV:TP 89 Tryz.t89 Tryz.t89:=⟨ak,ak⟩
theorem YU:TP 90 Tryz.t90 Tryz.t90:=⟨ak,ak⟩
theorem YT:TP 91 Tryz.t91 Tryz.t91:=⟨ak,ak⟩
theorem YS:TP 92 Tryz.t92 Tryz.t92:=⟨ak,ak⟩
theorem YR:TP 93 Tryz.t92 Tryz.t93:=⟨ak,ak⟩
theorem YQ:TP 94 Tryz.t94 Tryz.t94:=⟨ak,ak⟩
theorem YP:TP 95 Tryz.t95 Tryz.t95:=⟨ak,ak⟩
theorem YO:TP 96 Tryz.t96 Tryz.t96:=⟨ak,ak⟩
theorem YN:TP 97 Tryz.t97 Tryz.t97:=⟨ak,ak⟩
theorem YM:TP 98 Tryz.t98 Tryz.t98:=⟨ak,ak⟩
theorem YL:TP 99 Tryz.t99 Tryz.t99:=⟨ak,ak⟩
theorem V2:TP 100 Tryz.t100 Tryz.t100:=⟨ak,ak⟩
theorem V1:TP 101 Tryz.t101 Tryz.t101:=⟨ak,ak⟩
theorem V0:TP 102 Tryz.t102 Tryz.t102:=⟨ak,ak⟩
theorem VZ:TP 103 Tryz.t103 Tryz.t103:=⟨ak,ak⟩
theorem VY:TP 104 Tryz.t104 Tryz.t104:=⟨ak,ak⟩
theorem VX:TP 105 Tryz.t105 Tryz.t105:=⟨ak,ak⟩
theorem VW:TP 106 Tryz.t106 Tryz.t106:=⟨ak,ak⟩
theorem VV:TP 107 Tryz.t107 Tryz.t107:=⟨ak,ak⟩
theorem VU:TP 108 Tryz.t108 Tryz.t108:=⟨ak,ak⟩
theorem VT:TP 109 Tryz.t108 Tryz.t109:=⟨ak,ak⟩
theorem VS:TP 110 Tryz.t110 Tryz.t110:=⟨ak,ak⟩
theorem VR:TP 111 Tryz.t111 Tryz.t111:=⟨ak,ak⟩
theorem VQ:TP 112 Tryz.t112 Tryz.t112:=⟨ak,ak⟩
theorem VP:TP 113 Tryz.t112 Tryz.t113:=⟨ak,ak⟩
theorem VO:TP 114 Tryz.t114 Tryz.t114:=⟨ak,ak⟩
theorem VN:TP 115 Tryz.t115 Tryz.t115:=⟨ak,ak⟩
theorem VM:TP 116 Tryz.t116 Tryz.t116:=⟨ak,ak⟩
theorem VL:TP 117 Tryz.t116 Tryz.t117:=⟨ak,ak⟩
theorem VK:TP 118 Tryz.t118 Tryz.t118:=⟨ak,ak⟩
theorem VJ:TP 119 Tryz.t119 Tryz.t119:=⟨ak,ak⟩
theorem VI:TP 120 Tryz.t120 Tryz.t120:=⟨ak,ak⟩
theorem VH:TP 121 Tryz.t121 Tryz.t121:=⟨ak,ak⟩
theorem VG:TP 122 Tryz.t122 Tryz.t122:=⟨ak,ak⟩
theorem VF:TP 123 Tryz.t122 Tryz.t123:=⟨ak,ak⟩
theorem VE:TP 124 Tryz.t124 Tryz.t124:=⟨ak,ak⟩
theorem VD:TP 125 Tryz.t125 Tryz.t125:=⟨ak,ak⟩
theorem VC:TP 126 Tryz.t126 Tryz.t126:=⟨ak,ak⟩
theorem VB:TP 127 Tryz.t127 Tryz.t127:=⟨ak,ak⟩
theorem VA:TP 128 Tryz.t128 Tryz.t128:=⟨ak,ak⟩
theorem Vz:TP 129 Tryz.t128 Tryz.t129:=⟨ak,ak⟩
theorem Vy:TP 130 Tryz.t130 Tryz.t130:=⟨ak,ak⟩
theorem Vx:TP 131 Tryz.t131 Tryz.t131:=⟨ak,ak⟩
theorem Vv:TP 132 Tryz.t132 Tryz.t132:=⟨ak,ak⟩
theorem Vu:TP 133 Tryz.t133 Tryz.t133:=⟨ak,ak⟩
theorem Vt:TP 135 Tryz.t135 Tryz.t135:=⟨ak,ak⟩
theorem Vs:TP 136 Tryz.t136 Tryz.t136:=⟨ak,ak⟩
theorem Vr:TP 137 Tryz.t137 Tryz.t137:=⟨ak,ak⟩
theorem Vq:TP 138 Tryz.t138 Tryz.t138:=⟨ak,ak⟩
theorem Vp:TP 139 Tryz.t139 Tryz.t139:=⟨ak,ak⟩
theorem Vo:TP 140 Tryz.t140 Tryz.t140:=⟨ak,ak⟩
theorem Vn:TP 141 Tryz.t141 Tryz.t141:=⟨ak,ak⟩
theorem Vl:TP 142 Tryz.t142 Tryz.t142:=⟨ak,ak⟩
theorem Vk:TP 143 Tryz.t143 Tryz.t143:=⟨ak,ak⟩
theorem Vj:TP 144 Tryz.t144 Tryz.t144:=⟨ak,ak⟩
theorem Vi:TP 146 Tryz.t146 Tryz.t146:=⟨ak,ak⟩
theorem Vh:TP 147 Tryz.t147 Tryz.t147:=⟨ak,ak⟩
theorem Vg:TP 148 Tryz.t148 Tryz.t148:=⟨ak,ak⟩
theorem Vf:TP 149 Tryz.t149 Tryz.t149:=⟨ak,ak⟩
theorem Ve:TP 150 Tryz.t150 Tryz.t150:=⟨ak,ak⟩
theorem Vd:TP 151 Tryz.t151 Tryz.t151:=⟨ak,ak⟩
theorem Vc:TP 152 Tryz.t152 Tryz.t152:=⟨ak,ak⟩
theorem Vb:TP 153 Tryz.t153 Tryz.t153:=⟨ak,ak⟩
theorem Va:TP 154 Tryz.t154 Tryz.t154:=⟨ak,ak⟩
theorem U':TP 155 Tryz.t155 Tryz.t155:=⟨ak,ak⟩
theorem U9:TP 157 Tryz.t157 Tryz.t157:=⟨ak,ak⟩
theorem U8:TP 158 Tryz.t158 Tryz.t158:=⟨ak,ak⟩
theorem U7:TP 159 Tryz.t159 Tryz.t159:=⟨ak,ak⟩
theorem U6:TP 160 Tryz.t160 Tryz.t160:=⟨ak,ak⟩
theorem U5:TP 161 Tryz.t161 Tryz.t161:=⟨ak,ak⟩
theorem U4:TP 162 Tryz.t162 Tryz.t162:=⟨ak,ak⟩
theorem U3:TP 163 Tryz.t163 Tryz.t163:=⟨ak,ak⟩
theorem U2:TP 164 Tryz.t164 Tryz.t164:=⟨ak,ak⟩
theorem U1:TP 166 Tryz.t166 Tryz.t166:=⟨ak,ak⟩
theorem U0:TP 167 Tryz.t167 Tryz.t167:=⟨ak,ak⟩
theorem UZ:TP 168 Tryz.t168 Tryz.t168:=⟨ak,ak⟩
theorem UY:TP 169 Tryz.t168 Tryz.t169:=⟨ak,ak⟩
theorem UX:TP 170 Tryz.t170 Tryz.t170:=⟨ak,ak⟩
theorem UW:TP 172 Tryz.t172 Tryz.t172:=⟨ak,ak⟩
theorem UU:TP 173 Tryz.t173 Tryz.t173:=⟨ak,ak⟩
theorem UT:TP 174 Tryz.t173 Tryz.t174:=⟨ak,ak⟩
theorem US:TP 176 Tryz.t176 Tryz.t176:=⟨ak,ak⟩
theorem UR:TP 178 Tryz.t178 Tryz.t178:=⟨ak,ak⟩
theorem UQ:TP 179 Tryz.t179 Tryz.t179:=⟨ak,ak⟩
theorem UP:TP 180 Tryz.t180 Tryz.t180:=⟨ak,ak⟩
theorem UO:TP 181 Tryz.t181 Tryz.t181:=⟨ak,ak⟩
theorem UN:TP 182 Tryz.t182 Tryz.t182:=⟨ak,ak⟩
theorem UM:TP 183 Tryz.t182 Tryz.t183:=⟨ak,ak⟩
theorem UL:TP 184 Tryz.t184 Tryz.t184:=⟨ak,ak⟩
theorem UK:TP 185 Tryz.t185 Tryz.t185:=⟨ak,ak⟩
theorem UJ:TP 186 Tryz.t185 Tryz.t186:=⟨ak,ak⟩
theorem UI:TP 188 Tryz.t188 Tryz.t188:=⟨ak,ak⟩
theorem UH:TP 190 Tryz.t190 Tryz.t190:=⟨ak,ak⟩
theorem UG:TP 191 Tryz.t191 Tryz.t191:=⟨ak,ak⟩
theorem UF:TP 192 Tryz.t192 Tryz.t192:=⟨ak,ak⟩
theorem UE:TP 193 Tryz.t193 Tryz.t193:=⟨ak,ak⟩
theorem UD:TP 194 Tryz.t194 Tryz.t194:=⟨ak,ak⟩
theorem UC:TP 195 Tryz.t195 Tryz.t195:=⟨ak,ak⟩
theorem UB:TP 196 Tryz.t196 Tryz.t196:=⟨ak,ak⟩
theorem UA:TP 197 Tryz.t197 Tryz.t197:=⟨ak,ak⟩
theorem Uz:TP 198 Tryz.t198 Tryz.t198:=⟨ak,ak⟩
theorem Uy:TP 199 Tryz.t199 Tryz.t199:=⟨ak,ak⟩
theorem Ux:TP 200 Tryz.t200 Tryz.t200:=⟨ak,ak⟩
theorem Uw:TP 201 Tryz.t201 Tryz.t201:=⟨ak,ak⟩
theorem Uv:TP 202 Tryz.t202 Tryz.t202:=⟨ak,ak⟩
theorem Uu:TP 203 Tryz.t203 Tryz.t203:=⟨ak,ak⟩
theorem Ut:TP 204 Tryz.t204 Tryz.t204:=⟨ak,ak⟩
theorem Us:TP 205 Tryz.t205 Tryz.t205:=⟨ak,ak⟩
theorem Ur:TP 206 Tryz.t206 Tryz.t206:=⟨ak,ak⟩
theorem Uq:TP 207 Tryz.t206 Tryz.t207:=⟨ak,ak⟩
theorem Up:TP 208 Tryz.t208 Tryz.t208:=⟨ak,ak⟩
theorem Uo:TP 209 Tryz.t209 Tryz.t209:=⟨ak,ak⟩
theorem Un:TP 210 Tryz.t210 Tryz.t210:=⟨ak,ak⟩
theorem Um:TP 211 Tryz.t211 Tryz.t211:=⟨ak,ak⟩
theorem Ul:TP 212 Tryz.t211 Tryz.t212:=⟨ak,ak⟩
theorem Uk:TP 213 Tryz.t213 Tryz.t213:=⟨ak,ak⟩
theorem Uj:TP 214 Tryz.t214 Tryz.t214:=⟨ak,ak⟩
theorem Ui:TP 216 Tryz.t216 Tryz.t216:=⟨ak,ak⟩
theorem Uh:TP 217 Tryz.t217 Tryz.t217:=⟨ak,ak⟩
theorem Ug:TP 218 Tryz.t218 Tryz.t218:=⟨ak,ak⟩
theorem Uf:TP 219 Tryz.t219 Tryz.t219:=⟨ak,ak⟩
theorem Ue:TP 220 Tryz.t220 Tryz.t220:=⟨ak,ak⟩
theorem Ud:TP 221 Tryz.t221 Tryz.t221:=⟨ak,ak⟩
theorem Uc:TP 222 Tryz.t222 Tryz.t222:=⟨ak,ak⟩
theorem Ub:TP 223 Tryz.t223 Tryz.t223:=⟨ak,ak⟩
theorem Ua:TP 224 Tryz.t224 Tryz.t224:=⟨ak,ak⟩
theorem T':TP 225 Tryz.t140 Tryz.t225:=⟨ak,ak⟩
theorem T9:TP 226 Tryz.t226 Tryz.t226:=⟨ak,ak⟩
theorem T8:TP 228 Tryz.t228 Tryz.t228:=⟨ak,ak⟩
theorem T7:TP 229 Tryz.t229 Tryz.t229:=⟨ak,ak⟩
theorem T6:TP 230 Tryz.t230 Tryz.t230:=⟨ak,ak⟩
theorem T5:TP 231 Tryz.t231 Tryz.t231:=⟨ak,ak⟩
theorem T4:TP 233 Tryz.t233 Tryz.t233:=⟨ak,ak⟩
theorem T3:TP 234 Tryz.t234 Tryz.t234:=⟨ak,ak⟩
theorem T2:TP 235 Tryz.t235 Tryz.t235:=⟨ak,ak⟩
theorem T1:TP 236 Tryz.t236 Tryz.t236:=⟨ak,ak⟩
theorem TZ:TP 238 Tryz.t238 Tryz.t238:=⟨ak,ak⟩
theorem TY:TP 240 Tryz.t240 Tryz.t240:=⟨ak,ak⟩
theorem TX:TP 241 Tryz.t241 Tryz.t241:=⟨ak,ak⟩
theorem TW:TP 242 Tryz.t242 Tryz.t242:=⟨ak,ak⟩
theorem TV:TP 243 Tryz.t243 Tryz.t243:=⟨ak,ak⟩
theorem TU:TP 244 Tryz.t244 Tryz.t244:=⟨ak,ak⟩
theorem TT:TP 245 Tryz.t245 Tryz.t245:=⟨ak,ak⟩
theorem TS:TP 246 Tryz.t246 Tryz.t246:=⟨ak,ak⟩
theorem TR:TP 247 Tryz.t247 Tryz.t247:=⟨ak,ak⟩
theorem TQ:TP 248 Tryz.t248 Tryz.t248:=⟨ak,ak⟩
theorem TO:TP 249 Tryz.t249 Tryz.t249:=⟨ak,ak⟩
theorem TN:TP 251 Tryz.t251 Tryz.t251:=⟨ak,ak⟩
theorem TM:TP 252 Tryz.t252 Tryz.t252:=⟨ak,ak⟩
theorem TL:TP 253 Tryz.t253 Tryz.t253:=⟨ak,ak⟩
theorem TK:TP 254 Tryz.t254 Tryz.t254:=⟨ak,ak⟩
theorem TJ:TP 255 Tryz.t255 Tryz.t255:=⟨ak,ak⟩
theorem TI:TP 256 Tryz.t255 Tryz.t256:=⟨ak,ak⟩
theorem TH:TP 257 Tryz.t257 Tryz.t257:=⟨ak,ak⟩
theorem TG:TP 259 Tryz.t259 Tryz.t259:=⟨ak,ak⟩
theorem TF:TP 260 Tryz.t260 Tryz.t260:=⟨ak,ak⟩
theorem TE:TP 261 Tryz.t261 Tryz.t261:=⟨ak,ak⟩
theorem TD:TP 263 Tryz.t263 Tryz.t263:=⟨ak,ak⟩
theorem TB:TP 264 Tryz.t264 Tryz.t264:=⟨ak,ak⟩
theorem TA:TP 265 Tryz.t265 Tryz.t265:=⟨ak,ak⟩
theorem Tz:TP 266 Tryz.t265 Tryz.t266:=⟨ak,ak⟩
theorem Tx:TP 267 Tryz.t267 Tryz.t267:=⟨ak,ak⟩
theorem Tw:TP 268 Tryz.t268 Tryz.t268:=⟨ak,ak⟩
theorem Tv:TP 269 Tryz.t268 Tryz.t269:=⟨ak,ak⟩
theorem Tu:TP 270 Tryz.t270 Tryz.t270:=⟨ak,ak⟩
theorem Tt:TP 271 Tryz.t271 Tryz.t271:=⟨ak,ak⟩
theorem Ts:TP 272 Tryz.t3 Tryz.t272:=⟨ak,ak⟩
theorem Tq:TP 274 Tryz.t274 Tryz.t274:=⟨ak,ak⟩
theorem Tp:TP 275 Tryz.t275 Tryz.t275:=⟨ak,ak⟩
theorem To:TP 276 Tryz.t276 Tryz.t276:=⟨ak,ak⟩
theorem Tn:TP 277 Tryz.t277 Tryz.t277:=⟨ak,ak⟩
theorem Tm:TP 278 Tryz.t278 Tryz.t278:=⟨ak,ak⟩
theorem Tl:TP 279 Tryz.t279 Tryz.t279:=⟨ak,ak⟩
theorem Tj:TP 280 Tryz.t280 Tryz.t280:=⟨ak,ak⟩
theorem Ti:TP 281 Tryz.t281 Tryz.t281:=⟨ak,ak⟩
theorem Th:TP 283 Tryz.t283 Tryz.t283:=⟨ak,ak⟩
theorem Tg:TP 285 Tryz.t285 Tryz.t285:=⟨ak,ak⟩
theorem Tf:TP 286 Tryz.t286 Tryz.t286:=⟨ak,ak⟩
theorem Te:TP 287 Tryz.t287 Tryz.t287:=⟨ak,ak⟩
theorem Td:TP 288 Tryz.t288 Tryz.t288:=⟨ak,ak⟩
theorem Tc:TP 289 Tryz.t118 Tryz.t289:=⟨ak,ak⟩
theorem Tb:TP 290 Tryz.t290 Tryz.t290:=⟨ak,ak⟩
theorem Ta:TP 291 Tryz.t291 Tryz.t291:=⟨ak,ak⟩
theorem S9:TP 292 Tryz.t292 Tryz.t292:=⟨ak,ak⟩
theorem S8:TP 293 Tryz.t293 Tryz.t293:=⟨ak,ak⟩
theorem S7:TP 294 Tryz.t294 Tryz.t294:=⟨ak,ak⟩
theorem S6:TP 295 Tryz.t295 Tryz.t295:=⟨ak,ak⟩
theorem S5:TP 297 Tryz.t297 Tryz.t297:=⟨ak,ak⟩
theorem S4:TP 298 Tryz.t298 Tryz.t298:=⟨ak,ak⟩
theorem S0:TP 299 Tryz.t299 Tryz.t299:=⟨ak,ak⟩
theorem SZ:TP 300 Tryz.t299 Tryz.t300:=⟨ak,ak⟩
theorem SY:TP 301 Tryz.t301 Tryz.t301:=⟨ak,ak⟩
theorem SX:TP 302 Tryz.t302 Tryz.t302:=⟨ak,ak⟩
theorem SW:TP 303 Tryz.t302 Tryz.t303:=⟨ak,ak⟩
theorem SV:TP 304 Tryz.t5 Tryz.t304:=⟨ak,ak⟩
theorem SU:TP 305 Tryz.t5 Tryz.t305:=⟨ak,ak⟩
theorem SS:TP 306 Tryz.t306 Tryz.t306:=⟨ak,ak⟩
theorem SR:TP 307 Tryz.t307 Tryz.t307:=⟨ak,ak⟩
theorem SP:TP 308 Tryz.t21 Tryz.t308:=⟨ak,ak⟩
theorem SO:TP 309 Tryz.t21 Tryz.t309:=⟨ak,ak⟩
theorem SN:TP 310 Tryz.t310 Tryz.t310:=⟨ak,ak⟩
theorem SM:TP 311 Tryz.t310 Tryz.t311:=⟨ak,ak⟩
theorem SK:TP 312 Tryz.t312 Tryz.t312:=⟨ak,ak⟩
noncomputable def aN:Tr:=(.node 153 ⟨Tryz.t153.desc,Tryz.t153⟩ (.node 80 ⟨Tryz.t80.desc,Tryz.t80⟩ (.node 37 ⟨Tryz.t36.desc,Tryz.t37⟩ (.node 18 ⟨Tryz.t18.desc,Tryz.t18⟩ (.node 9 ⟨Tryz.t9.desc,Tryz.t9⟩ (.node 5 ⟨Tryz.t5.desc,Tryz.t5⟩ (.node 3 ⟨Tryz.t3.desc,Tryz.t3⟩ (.node 2 ⟨Tryz.t2.desc,Tryz.t2⟩ (.node 1 ⟨Tryz.t1.desc,Tryz.t1⟩ .leaf .leaf) .leaf) (.node 4 ⟨Tryz.t4.desc,Tryz.t4⟩ .leaf .leaf)) (.node 7 ⟨Tryz.t7.desc,Tryz.t7⟩ (.node 6 ⟨Tryz.t5.desc,Tryz.t6⟩ .leaf .leaf) (.node 8 ⟨Tryz.t7.desc,Tryz.t8⟩ .leaf .leaf))) (.node 14 ⟨Tryz.t13.desc,Tryz.t14⟩ (.node 12 ⟨Tryz.t12.desc,Tryz.t12⟩ (.node 11 ⟨Tryz.t9.desc,Tryz.t11⟩ (.node 10 ⟨Tryz.t9.desc,Tryz.t10⟩ .leaf .leaf) .leaf) (.node 13 ⟨Tryz.t13.desc,Tryz.t13⟩ .leaf .leaf)) (.node 16 ⟨Tryz.t16.desc,Tryz.t16⟩ (.node 15 ⟨Tryz.t15.desc,Tryz.t15⟩ .leaf .leaf) (.node 17 ⟨Tryz.t17.desc,Tryz.t17⟩ .leaf .leaf)))) (.node 28 ⟨Tryz.t28.desc,Tryz.t28⟩ (.node 23 ⟨Tryz.t23.desc,Tryz.t23⟩ (.node 21 ⟨Tryz.t21.desc,Tryz.t21⟩ (.node 20 ⟨Tryz.t20.desc,Tryz.t20⟩ (.node 19 ⟨Tryz.t18.desc,Tryz.t19⟩ .leaf .leaf) .leaf) (.node 22 ⟨Tryz.t22.desc,Tryz.t22⟩ .leaf .leaf)) (.node 25 ⟨Tryz.t3.desc,Tryz.t25⟩ (.node 24 ⟨Tryz.t24.desc,Tryz.t24⟩ .leaf .leaf) (.node 27 ⟨Tryz.t27.desc,Tryz.t27⟩ .leaf .leaf))) (.node 33 ⟨Tryz.t33.desc,Tryz.t33⟩ (.node 31 ⟨Tryz.t31.desc,Tryz.t31⟩ (.node 30 ⟨Tryz.t30.desc,Tryz.t30⟩ (.node 29 ⟨Tryz.t29.desc,Tryz.t29⟩ .leaf .leaf) .leaf) (.node 32 ⟨Tryz.t31.desc,Tryz.t32⟩ .leaf .leaf)) (.node 35 ⟨Tryz.t34.desc,Tryz.t35⟩ (.node 34 ⟨Tryz.t34.desc,Tryz.t34⟩ .leaf .leaf) (.node 36 ⟨Tryz.t36.desc,Tryz.t36⟩ .leaf .leaf))))) (.node 58 ⟨Tryz.t58.desc,Tryz.t58⟩ (.node 48 ⟨Tryz.t48.desc,Tryz.t48⟩ (.node 44 ⟨Tryz.t44.desc,Tryz.t44⟩ (.node 41 ⟨Tryz.t41.desc,Tryz.t41⟩ (.node 40 ⟨Tryz.t40.desc,Tryz.t40⟩ (.node 39 ⟨Tryz.t39.desc,Tryz.t39⟩ .leaf .leaf) .leaf) (.node 42 ⟨Tryz.t42.desc,Tryz.t42⟩ .leaf .leaf)) (.node 46 ⟨Tryz.t45.desc,Tryz.t46⟩ (.node 45 ⟨Tryz.t45.desc,Tryz.t45⟩ .leaf .leaf) (.node 47 ⟨Tryz.t47.desc,Tryz.t47⟩ .leaf .leaf))) (.node 53 ⟨Tryz.t53.desc,Tryz.t53⟩ (.node 51 ⟨Tryz.t51.desc,Tryz.t51⟩ (.node 50 ⟨Tryz.t50.desc,Tryz.t50⟩ (.node 49 ⟨Tryz.t49.desc,Tryz.t49⟩ .leaf .leaf) .leaf) (.node 52 ⟨Tryz.t52.desc,Tryz.t52⟩ .leaf .leaf)) (.node 56 ⟨Tryz.t56.desc,Tryz.t56⟩ (.node 54 ⟨Tryz.t54.desc,Tryz.t54⟩ .leaf .leaf) (.node 57 ⟨Tryz.t57.desc,Tryz.t57⟩ .leaf .leaf)))) (.node 70 ⟨Tryz.t70.desc,Tryz.t70⟩ (.node 66 ⟨Tryz.t66.desc,Tryz.t66⟩ (.node 64 ⟨Tryz.t64.desc,Tryz.t64⟩ (.node 62 ⟨Tryz.t62.desc,Tryz.t62⟩ (.node 60 ⟨Tryz.t60.desc,Tryz.t60⟩ .leaf .leaf) .leaf) (.node 65 ⟨Tryz.t65.desc,Tryz.t65⟩ .leaf .leaf)) (.node 68 ⟨Tryz.t68.desc,Tryz.t68⟩ (.node 67 ⟨Tryz.t67.desc,Tryz.t67⟩ .leaf .leaf) (.node 69 ⟨Tryz.t69.desc,Tryz.t69⟩ .leaf .leaf))) (.node 74 ⟨Tryz.t74.desc,Tryz.t74⟩ (.node 72 ⟨Tryz.t71.desc,Tryz.t72⟩ (.node 71 ⟨Tryz.t71.desc,Tryz.t71⟩ .leaf .leaf) (.node 73 ⟨Tryz.t73.desc,Tryz.t73⟩ .leaf .leaf)) (.node 76 ⟨Tryz.t75.desc,Tryz.t76⟩ (.node 75 ⟨Tryz.t75.desc,Tryz.t75⟩ .leaf .leaf) (.node 78 ⟨Tryz.t78.desc,Tryz.t78⟩ .leaf .leaf)))))) (.node 116 ⟨Tryz.t116.desc,Tryz.t116⟩ (.node 99 ⟨Tryz.t99.desc,Tryz.t99⟩ (.node 90 ⟨Tryz.t90.desc,Tryz.t90⟩ (.node 86 ⟨Tryz.t86.desc,Tryz.t86⟩ (.node 84 ⟨Tryz.t84.desc,Tryz.t84⟩ (.node 83 ⟨Tryz.t83.desc,Tryz.t83⟩ (.node 82 ⟨Tryz.t82.desc,Tryz.t82⟩ .leaf .leaf) .leaf) (.node 85 ⟨Tryz.t85.desc,Tryz.t85⟩ .leaf .leaf)) (.node 88 ⟨Tryz.t87.desc,Tryz.t88⟩ (.node 87 ⟨Tryz.t87.desc,Tryz.t87⟩ .leaf .leaf) (.node 89 ⟨Tryz.t89.desc,Tryz.t89⟩ .leaf .leaf))) (.node 95 ⟨Tryz.t95.desc,Tryz.t95⟩ (.node 93 ⟨Tryz.t92.desc,Tryz.t93⟩ (.node 92 ⟨Tryz.t92.desc,Tryz.t92⟩ (.node 91 ⟨Tryz.t91.desc,Tryz.t91⟩ .leaf .leaf) .leaf) (.node 94 ⟨Tryz.t94.desc,Tryz.t94⟩ .leaf .leaf)) (.node 97 ⟨Tryz.t97.desc,Tryz.t97⟩ (.node 96 ⟨Tryz.t96.desc,Tryz.t96⟩ .leaf .leaf) (.node 98 ⟨Tryz.t98.desc,Tryz.t98⟩ .leaf .leaf)))) (.node 108 ⟨Tryz.t108.desc,Tryz.t108⟩ (.node 104 ⟨Tryz.t104.desc,Tryz.t104⟩ (.node 102 ⟨Tryz.t102.desc,Tryz.t102⟩ (.node 101 ⟨Tryz.t101.desc,Tryz.t101⟩ (.node 100 ⟨Tryz.t100.desc,Tryz.t100⟩ .leaf .leaf) .leaf) (.node 103 ⟨Tryz.t103.desc,Tryz.t103⟩ .leaf .leaf)) (.node 106 ⟨Tryz.t106.desc,Tryz.t106⟩ (.node 105 ⟨Tryz.t105.desc,Tryz.t105⟩ .leaf .leaf) (.node 107 ⟨Tryz.t107.desc,Tryz.t107⟩ .leaf .leaf))) (.node 112 ⟨Tryz.t112.desc,Tryz.t112⟩ (.node 110 ⟨Tryz.t110.desc,Tryz.t110⟩ (.node 109 ⟨Tryz.t108.desc,Tryz.t109⟩ .leaf .leaf) (.node 111 ⟨Tryz.t111.desc,Tryz.t111⟩ .leaf .leaf)) (.node 114 ⟨Tryz.t114.desc,Tryz.t114⟩ (.node 113 ⟨Tryz.t112.desc,Tryz.t113⟩ .leaf .leaf) (.node 115 ⟨Tryz.t115.desc,Tryz.t115⟩ .leaf .leaf))))) (.node 135 ⟨Tryz.t135.desc,Tryz.t135⟩ (.node 125 ⟨Tryz.t125.desc,Tryz.t125⟩ (.node 121 ⟨Tryz.t121.desc,Tryz.t121⟩ (.node 119 ⟨Tryz.t119.desc,Tryz.t119⟩ (.node 118 ⟨Tryz.t118.desc,Tryz.t118⟩ (.node 117 ⟨Tryz.t116.desc,Tryz.t117⟩ .leaf .leaf) .leaf) (.node 120 ⟨Tryz.t120.desc,Tryz.t120⟩ .leaf .leaf)) (.node 123 ⟨Tryz.t122.desc,Tryz.t123⟩ (.node 122 ⟨Tryz.t122.desc,Tryz.t122⟩ .leaf .leaf) (.node 124 ⟨Tryz.t124.desc,Tryz.t124⟩ .leaf .leaf))) (.node 130 ⟨Tryz.t130.desc,Tryz.t130⟩ (.node 128 ⟨Tryz.t128.desc,Tryz.t128⟩ (.node 127 ⟨Tryz.t127.desc,Tryz.t127⟩ (.node 126 ⟨Tryz.t126.desc,Tryz.t126⟩ .leaf .leaf) .leaf) (.node 129 ⟨Tryz.t128.desc,Tryz.t129⟩ .leaf .leaf)) (.node 132 ⟨Tryz.t132.desc,Tryz.t132⟩ (.node 131 ⟨Tryz.t131.desc,Tryz.t131⟩ .leaf .leaf) (.node 133 ⟨Tryz.t133.desc,Tryz.t133⟩ .leaf .leaf)))) (.node 144 ⟨Tryz.t144.desc,Tryz.t144⟩ (.node 140 ⟨Tryz.t140.desc,Tryz.t140⟩ (.node 138 ⟨Tryz.t138.desc,Tryz.t138⟩ (.node 137 ⟨Tryz.t137.desc,Tryz.t137⟩ (.node 136 ⟨Tryz.t136.desc,Tryz.t136⟩ .leaf .leaf) .leaf) (.node 139 ⟨Tryz.t139.desc,Tryz.t139⟩ .leaf .leaf)) (.node 142 ⟨Tryz.t142.desc,Tryz.t142⟩ (.node 141 ⟨Tryz.t141.desc,Tryz.t141⟩ .leaf .leaf) (.node 143 ⟨Tryz.t143.desc,Tryz.t143⟩ .leaf .leaf))) (.node 149 ⟨Tryz.t149.desc,Tryz.t149⟩ (.node 147 ⟨Tryz.t147.desc,Tryz.t147⟩ (.node 146 ⟨Tryz.t146.desc,Tryz.t146⟩ .leaf .leaf) (.node 148 ⟨Tryz.t148.desc,Tryz.t148⟩ .leaf .leaf)) (.node 151 ⟨Tryz.t151.desc,Tryz.t151⟩ (.node 150 ⟨Tryz.t150.desc,Tryz.t150⟩ .leaf .leaf) (.node 152 ⟨Tryz.t152.desc,Tryz.t152⟩ .leaf .leaf))))))) (.node 234 ⟨Tryz.t234.desc,Tryz.t234⟩ (.node 196 ⟨Tryz.t196.desc,Tryz.t196⟩ (.node 174 ⟨Tryz.t173.desc,Tryz.t174⟩ (.node 163 ⟨Tryz.t163.desc,Tryz.t163⟩ (.node 159 ⟨Tryz.t159.desc,Tryz.t159⟩ (.node 157 ⟨Tryz.t157.desc,Tryz.t157⟩ (.node 155 ⟨Tryz.t155.desc,Tryz.t155⟩ (.node 154 ⟨Tryz.t154.desc,Tryz.t154⟩ .leaf .leaf) .leaf) (.node 158 ⟨Tryz.t158.desc,Tryz.t158⟩ .leaf .leaf)) (.node 161 ⟨Tryz.t161.desc,Tryz.t161⟩ (.node 160 ⟨Tryz.t160.desc,Tryz.t160⟩ .leaf .leaf) (.node 162 ⟨Tryz.t162.desc,Tryz.t162⟩ .leaf .leaf))) (.node 169 ⟨Tryz.t168.desc,Tryz.t169⟩ (.node 167 ⟨Tryz.t167.desc,Tryz.t167⟩ (.node 166 ⟨Tryz.t166.desc,Tryz.t166⟩ (.node 164 ⟨Tryz.t164.desc,Tryz.t164⟩ .leaf .leaf) .leaf) (.node 168 ⟨Tryz.t168.desc,Tryz.t168⟩ .leaf .leaf)) (.node 172 ⟨Tryz.t172.desc,Tryz.t172⟩ (.node 170 ⟨Tryz.t170.desc,Tryz.t170⟩ .leaf .leaf) (.node 173 ⟨Tryz.t173.desc,Tryz.t173⟩ .leaf .leaf)))) (.node 185 ⟨Tryz.t185.desc,Tryz.t185⟩ (.node 181 ⟨Tryz.t181.desc,Tryz.t181⟩ (.node 179 ⟨Tryz.t179.desc,Tryz.t179⟩ (.node 178 ⟨Tryz.t178.desc,Tryz.t178⟩ (.node 176 ⟨Tryz.t176.desc,Tryz.t176⟩ .leaf .leaf) .leaf) (.node 180 ⟨Tryz.t180.desc,Tryz.t180⟩ .leaf .leaf)) (.node 183 ⟨Tryz.t182.desc,Tryz.t183⟩ (.node 182 ⟨Tryz.t182.desc,Tryz.t182⟩ .leaf .leaf) (.node 184 ⟨Tryz.t184.desc,Tryz.t184⟩ .leaf .leaf))) (.node 192 ⟨Tryz.t192.desc,Tryz.t192⟩ (.node 190 ⟨Tryz.t190.desc,Tryz.t190⟩ (.node 188 ⟨Tryz.t188.desc,Tryz.t188⟩ (.node 186 ⟨Tryz.t185.desc,Tryz.t186⟩ .leaf .leaf) .leaf) (.node 191 ⟨Tryz.t191.desc,Tryz.t191⟩ .leaf .leaf)) (.node 194 ⟨Tryz.t194.desc,Tryz.t194⟩ (.node 193 ⟨Tryz.t193.desc,Tryz.t193⟩ .leaf .leaf) (.node 195 ⟨Tryz.t195.desc,Tryz.t195⟩ .leaf .leaf))))) (.node 214 ⟨Tryz.t214.desc,Tryz.t214⟩ (.node 205 ⟨Tryz.t205.desc,Tryz.t205⟩ (.node 201 ⟨Tryz.t201.desc,Tryz.t201⟩ (.node 199 ⟨Tryz.t199.desc,Tryz.t199⟩ (.node 198 ⟨Tryz.t198.desc,Tryz.t198⟩ (.node 197 ⟨Tryz.t197.desc,Tryz.t197⟩ .leaf .leaf) .leaf) (.node 200 ⟨Tryz.t200.desc,Tryz.t200⟩ .leaf .leaf)) (.node 203 ⟨Tryz.t203.desc,Tryz.t203⟩ (.node 202 ⟨Tryz.t202.desc,Tryz.t202⟩ .leaf .leaf) (.node 204 ⟨Tryz.t204.desc,Tryz.t204⟩ .leaf .leaf))) (.node 210 ⟨Tryz.t210.desc,Tryz.t210⟩ (.node 208 ⟨Tryz.t208.desc,Tryz.t208⟩ (.node 207 ⟨Tryz.t206.desc,Tryz.t207⟩ (.node 206 ⟨Tryz.t206.desc,Tryz.t206⟩ .leaf .leaf) .leaf) (.node 209 ⟨Tryz.t209.desc,Tryz.t209⟩ .leaf .leaf)) (.node 212 ⟨Tryz.t211.desc,Tryz.t212⟩ (.node 211 ⟨Tryz.t211.desc,Tryz.t211⟩ .leaf .leaf) (.node 213 ⟨Tryz.t213.desc,Tryz.t213⟩ .leaf .leaf)))) (.node 224 ⟨Tryz.t224.desc,Tryz.t224⟩ (.node 220 ⟨Tryz.t220.desc,Tryz.t220⟩ (.node 218 ⟨Tryz.t218.desc,Tryz.t218⟩ (.node 217 ⟨Tryz.t217.desc,Tryz.t217⟩ (.node 216 ⟨Tryz.t216.desc,Tryz.t216⟩ .leaf .leaf) .leaf) (.node 219 ⟨Tryz.t219.desc,Tryz.t219⟩ .leaf .leaf)) (.node 222 ⟨Tryz.t222.desc,Tryz.t222⟩ (.node 221 ⟨Tryz.t221.desc,Tryz.t221⟩ .leaf .leaf) (.node 223 ⟨Tryz.t223.desc,Tryz.t223⟩ .leaf .leaf))) (.node 229 ⟨Tryz.t229.desc,Tryz.t229⟩ (.node 226 ⟨Tryz.t226.desc,Tryz.t226⟩ (.node 225 ⟨Tryz.t140.desc,Tryz.t225⟩ .leaf .leaf) (.node 228 ⟨Tryz.t228.desc,Tryz.t228⟩ .leaf .leaf)) (.node 231 ⟨Tryz.t231.desc,Tryz.t231⟩ (.node 230 ⟨Tryz.t230.desc,Tryz.t230⟩ .leaf .leaf) (.node 233 ⟨Tryz.t233.desc,Tryz.t233⟩ .leaf .leaf)))))) (.node 275 ⟨Tryz.t275.desc,Tryz.t275⟩ (.node 255 ⟨Tryz.t255.desc,Tryz.t255⟩ (.node 245 ⟨Tryz.t245.desc,Tryz.t245⟩ (.node 241 ⟨Tryz.t241.desc,Tryz.t241⟩ (.node 238 ⟨Tryz.t238.desc,Tryz.t238⟩ (.node 236 ⟨Tryz.t236.desc,Tryz.t236⟩ (.node 235 ⟨Tryz.t235.desc,Tryz.t235⟩ .leaf .leaf) .leaf) (.node 240 ⟨Tryz.t240.desc,Tryz.t240⟩ .leaf .leaf)) (.node 243 ⟨Tryz.t243.desc,Tryz.t243⟩ (.node 242 ⟨Tryz.t242.desc,Tryz.t242⟩ .leaf .leaf) (.node 244 ⟨Tryz.t244.desc,Tryz.t244⟩ .leaf .leaf))) (.node 251 ⟨Tryz.t251.desc,Tryz.t251⟩ (.node 248 ⟨Tryz.t248.desc,Tryz.t248⟩ (.node 247 ⟨Tryz.t247.desc,Tryz.t247⟩ (.node 246 ⟨Tryz.t246.desc,Tryz.t246⟩ .leaf .leaf) .leaf) (.node 249 ⟨Tryz.t249.desc,Tryz.t249⟩ .leaf .leaf)) (.node 253 ⟨Tryz.t253.desc,Tryz.t253⟩ (.node 252 ⟨Tryz.t252.desc,Tryz.t252⟩ .leaf .leaf) (.node 254 ⟨Tryz.t254.desc,Tryz.t254⟩ .leaf .leaf)))) (.node 266 ⟨Tryz.t265.desc,Tryz.t266⟩ (.node 261 ⟨Tryz.t261.desc,Tryz.t261⟩ (.node 259 ⟨Tryz.t259.desc,Tryz.t259⟩ (.node 257 ⟨Tryz.t257.desc,Tryz.t257⟩ (.node 256 ⟨Tryz.t255.desc,Tryz.t256⟩ .leaf .leaf) .leaf) (.node 260 ⟨Tryz.t260.desc,Tryz.t260⟩ .leaf .leaf)) (.node 264 ⟨Tryz.t264.desc,Tryz.t264⟩ (.node 263 ⟨Tryz.t263.desc,Tryz.t263⟩ .leaf .leaf) (.node 265 ⟨Tryz.t265.desc,Tryz.t265⟩ .leaf .leaf))) (.node 270 ⟨Tryz.t270.desc,Tryz.t270⟩ (.node 268 ⟨Tryz.t268.desc,Tryz.t268⟩ (.node 267 ⟨Tryz.t267.desc,Tryz.t267⟩ .leaf .leaf) (.node 269 ⟨Tryz.t268.desc,Tryz.t269⟩ .leaf .leaf)) (.node 272 ⟨Tryz.t3.desc,Tryz.t272⟩ (.node 271 ⟨Tryz.t271.desc,Tryz.t271⟩ .leaf .leaf) (.node 274 ⟨Tryz.t274.desc,Tryz.t274⟩ .leaf .leaf))))) (.node 295 ⟨Tryz.t295.desc,Tryz.t295⟩ (.node 286 ⟨Tryz.t286.desc,Tryz.t286⟩ (.node 280 ⟨Tryz.t280.desc,Tryz.t280⟩ (.node 278 ⟨Tryz.t278.desc,Tryz.t278⟩ (.node 277 ⟨Tryz.t277.desc,Tryz.t277⟩ (.node 276 ⟨Tryz.t276.desc,Tryz.t276⟩ .leaf .leaf) .leaf) (.node 279 ⟨Tryz.t279.desc,Tryz.t279⟩ .leaf .leaf)) (.node 283 ⟨Tryz.t283.desc,Tryz.t283⟩ (.node 281 ⟨Tryz.t281.desc,Tryz.t281⟩ .leaf .leaf) (.node 285 ⟨Tryz.t285.desc,Tryz.t285⟩ .leaf .leaf))) (.node 291 ⟨Tryz.t291.desc,Tryz.t291⟩ (.node 289 ⟨Tryz.t118.desc,Tryz.t289⟩ (.node 288 ⟨Tryz.t288.desc,Tryz.t288⟩ (.node 287 ⟨Tryz.t287.desc,Tryz.t287⟩ .leaf .leaf) .leaf) (.node 290 ⟨Tryz.t290.desc,Tryz.t290⟩ .leaf .leaf)) (.node 293 ⟨Tryz.t293.desc,Tryz.t293⟩ (.node 292 ⟨Tryz.t292.desc,Tryz.t292⟩ .leaf .leaf) (.node 294 ⟨Tryz.t294.desc,Tryz.t294⟩ .leaf .leaf)))) (.node 305 ⟨Tryz.t5.desc,Tryz.t305⟩ (.node 301 ⟨Tryz.t301.desc,Tryz.t301⟩ (.node 299 ⟨Tryz.t299.desc,Tryz.t299⟩ (.node 298 ⟨Tryz.t298.desc,Tryz.t298⟩ (.node 297 ⟨Tryz.t297.desc,Tryz.t297⟩ .leaf .leaf) .leaf) (.node 300 ⟨Tryz.t299.desc,Tryz.t300⟩ .leaf .leaf)) (.node 303 ⟨Tryz.t302.desc,Tryz.t303⟩ (.node 302 ⟨Tryz.t302.desc,Tryz.t302⟩ .leaf .leaf) (.node 304 ⟨Tryz.t5.desc,Tryz.t304⟩ .leaf .leaf))) (.node 309 ⟨Tryz.t21.desc,Tryz.t309⟩ (.node 307 ⟨Tryz.t307.desc,Tryz.t307⟩ (.node 306 ⟨Tryz.t306.desc,Tryz.t306⟩ .leaf .leaf) (.node 308 ⟨Tryz.t21.desc,Tryz.t308⟩ .leaf .leaf)) (.node 311 ⟨Tryz.t310.desc,Tryz.t311⟩ (.node 310 ⟨Tryz.t310.desc,Tryz.t310⟩ .leaf .leaf) (.node 312 ⟨Tryz.t312.desc,Tryz.t312⟩ .leaf .leaf))))))))
instance kF:fT Tryz.prog aN:=⟨⟨Vb,⟨Y3,⟨ZB,⟨ZT,⟨abI,⟨abM,⟨abO,⟨abP,⟨abQ,trivial,trivial⟩,trivial⟩,⟨abN,trivial,trivial⟩⟩,⟨abK,⟨abL,trivial,trivial⟩,⟨abJ,trivial,trivial⟩⟩⟩,⟨ZX,⟨ZZ,⟨Z1,⟨Z3,trivial,trivial⟩,trivial⟩,⟨ZY,trivial,trivial⟩⟩,⟨ZV,⟨ZW,trivial,trivial⟩,⟨ZU,trivial,trivial⟩⟩⟩⟩,⟨ZK,⟨ZO,⟨ZQ,⟨ZR,⟨ZS,trivial,trivial⟩,trivial⟩,⟨ZP,trivial,trivial⟩⟩,⟨ZM,⟨ZN,trivial,trivial⟩,⟨ZL,trivial,trivial⟩⟩⟩,⟨ZF,⟨ZH,⟨ZI,⟨ZJ,trivial,trivial⟩,trivial⟩,⟨ZG,trivial,trivial⟩⟩,⟨ZD,⟨ZE,trivial,trivial⟩,⟨ZC,trivial,trivial⟩⟩⟩⟩⟩,⟨Zj,⟨Zs,⟨Zw,⟨Zy,⟨Zz,⟨ZA,trivial,trivial⟩,trivial⟩,⟨Zx,trivial,trivial⟩⟩,⟨Zu,⟨Zv,trivial,trivial⟩,⟨Zt,trivial,trivial⟩⟩⟩,⟨Zn,⟨Zp,⟨Zq,⟨Zr,trivial,trivial⟩,trivial⟩,⟨Zo,trivial,trivial⟩⟩,⟨Zl,⟨Zm,trivial,trivial⟩,⟨Zk,trivial,trivial⟩⟩⟩⟩,⟨Za,⟨Ze,⟨Zg,⟨Zh,⟨Zi,trivial,trivial⟩,trivial⟩,⟨Zf,trivial,trivial⟩⟩,⟨Zc,⟨Zd,trivial,trivial⟩,⟨Zb,trivial,trivial⟩⟩⟩,⟨Y7,⟨Y9,⟨Y',trivial,trivial⟩,⟨Y8,trivial,trivial⟩⟩,⟨Y5,⟨Y6,trivial,trivial⟩,⟨Y4,trivial,trivial⟩⟩⟩⟩⟩⟩,⟨VM,⟨YL,⟨YU,⟨YY,⟨Y0,⟨Y1,⟨Y2,trivial,trivial⟩,trivial⟩,⟨YZ,trivial,trivial⟩⟩,⟨YW,⟨YX,trivial,trivial⟩,⟨YV,trivial,trivial⟩⟩⟩,⟨YP,⟨YR,⟨YS,⟨YT,trivial,trivial⟩,trivial⟩,⟨YQ,trivial,trivial⟩⟩,⟨YN,⟨YO,trivial,trivial⟩,⟨YM,trivial,trivial⟩⟩⟩⟩,⟨VU,⟨VY,⟨V0,⟨V1,⟨V2,trivial,trivial⟩,trivial⟩,⟨VZ,trivial,trivial⟩⟩,⟨VW,⟨VX,trivial,trivial⟩,⟨VV,trivial,trivial⟩⟩⟩,⟨VQ,⟨VS,⟨VT,trivial,trivial⟩,⟨VR,trivial,trivial⟩⟩,⟨VO,⟨VP,trivial,trivial⟩,⟨VN,trivial,trivial⟩⟩⟩⟩⟩,⟨Vt,⟨VD,⟨VH,⟨VJ,⟨VK,⟨VL,trivial,trivial⟩,trivial⟩,⟨VI,trivial,trivial⟩⟩,⟨VF,⟨VG,trivial,trivial⟩,⟨VE,trivial,trivial⟩⟩⟩,⟨Vy,⟨VA,⟨VB,⟨VC,trivial,trivial⟩,trivial⟩,⟨Vz,trivial,trivial⟩⟩,⟨Vv,⟨Vx,trivial,trivial⟩,⟨Vu,trivial,trivial⟩⟩⟩⟩,⟨Vj,⟨Vo,⟨Vq,⟨Vr,⟨Vs,trivial,trivial⟩,trivial⟩,⟨Vp,trivial,trivial⟩⟩,⟨Vl,⟨Vn,trivial,trivial⟩,⟨Vk,trivial,trivial⟩⟩⟩,⟨Vf,⟨Vh,⟨Vi,trivial,trivial⟩,⟨Vg,trivial,trivial⟩⟩,⟨Vd,⟨Ve,trivial,trivial⟩,⟨Vc,trivial,trivial⟩⟩⟩⟩⟩⟩⟩,⟨T3,⟨UB,⟨UT,⟨U3,⟨U7,⟨U9,⟨U',⟨Va,trivial,trivial⟩,trivial⟩,⟨U8,trivial,trivial⟩⟩,⟨U5,⟨U6,trivial,trivial⟩,⟨U4,trivial,trivial⟩⟩⟩,⟨UY,⟨U0,⟨U1,⟨U2,trivial,trivial⟩,trivial⟩,⟨UZ,trivial,trivial⟩⟩,⟨UW,⟨UX,trivial,trivial⟩,⟨UU,trivial,trivial⟩⟩⟩⟩,⟨UK,⟨UO,⟨UQ,⟨UR,⟨US,trivial,trivial⟩,trivial⟩,⟨UP,trivial,trivial⟩⟩,⟨UM,⟨UN,trivial,trivial⟩,⟨UL,trivial,trivial⟩⟩⟩,⟨UF,⟨UH,⟨UI,⟨UJ,trivial,trivial⟩,trivial⟩,⟨UG,trivial,trivial⟩⟩,⟨UD,⟨UE,trivial,trivial⟩,⟨UC,trivial,trivial⟩⟩⟩⟩⟩,⟨Uj,⟨Us,⟨Uw,⟨Uy,⟨Uz,⟨UA,trivial,trivial⟩,trivial⟩,⟨Ux,trivial,trivial⟩⟩,⟨Uu,⟨Uv,trivial,trivial⟩,⟨Ut,trivial,trivial⟩⟩⟩,⟨Un,⟨Up,⟨Uq,⟨Ur,trivial,trivial⟩,trivial⟩,⟨Uo,trivial,trivial⟩⟩,⟨Ul,⟨Um,trivial,trivial⟩,⟨Uk,trivial,trivial⟩⟩⟩⟩,⟨Ua,⟨Ue,⟨Ug,⟨Uh,⟨Ui,trivial,trivial⟩,trivial⟩,⟨Uf,trivial,trivial⟩⟩,⟨Uc,⟨Ud,trivial,trivial⟩,⟨Ub,trivial,trivial⟩⟩⟩,⟨T7,⟨T9,⟨T',trivial,trivial⟩,⟨T8,trivial,trivial⟩⟩,⟨T5,⟨T6,trivial,trivial⟩,⟨T4,trivial,trivial⟩⟩⟩⟩⟩⟩,⟨Tp,⟨TJ,⟨TT,⟨TX,⟨TZ,⟨T1,⟨T2,trivial,trivial⟩,trivial⟩,⟨TY,trivial,trivial⟩⟩,⟨TV,⟨TW,trivial,trivial⟩,⟨TU,trivial,trivial⟩⟩⟩,⟨TN,⟨TQ,⟨TR,⟨TS,trivial,trivial⟩,trivial⟩,⟨TO,trivial,trivial⟩⟩,⟨TL,⟨TM,trivial,trivial⟩,⟨TK,trivial,trivial⟩⟩⟩⟩,⟨Tz,⟨TE,⟨TG,⟨TH,⟨TI,trivial,trivial⟩,trivial⟩,⟨TF,trivial,trivial⟩⟩,⟨TB,⟨TD,trivial,trivial⟩,⟨TA,trivial,trivial⟩⟩⟩,⟨Tu,⟨Tw,⟨Tx,trivial,trivial⟩,⟨Tv,trivial,trivial⟩⟩,⟨Ts,⟨Tt,trivial,trivial⟩,⟨Tq,trivial,trivial⟩⟩⟩⟩⟩,⟨S6,⟨Tf,⟨Tj,⟨Tm,⟨Tn,⟨To,trivial,trivial⟩,trivial⟩,⟨Tl,trivial,trivial⟩⟩,⟨Th,⟨Ti,trivial,trivial⟩,⟨Tg,trivial,trivial⟩⟩⟩,⟨Ta,⟨Tc,⟨Td,⟨Te,trivial,trivial⟩,trivial⟩,⟨Tb,trivial,trivial⟩⟩,⟨S8,⟨S9,trivial,trivial⟩,⟨S7,trivial,trivial⟩⟩⟩⟩,⟨SU,⟨SY,⟨S0,⟨S4,⟨S5,trivial,trivial⟩,trivial⟩,⟨SZ,trivial,trivial⟩⟩,⟨SW,⟨SX,trivial,trivial⟩,⟨SV,trivial,trivial⟩⟩⟩,⟨SO,⟨SR,⟨SS,trivial,trivial⟩,⟨SP,trivial,trivial⟩⟩,⟨SM,⟨SN,trivial,trivial⟩,⟨SK,trivial,trivial⟩⟩⟩⟩⟩⟩⟩⟩⟩
theorem mixed:Tryz.prog.follows .mixedOrders=true:=by kernel_rfl
theorem go{A B:Prop}(a:A)(h:X4 A→B:=by(intro h;(repeat'(first|refine Fh (U:=aN) rfl ?_|(refine Jn ?_;first|refine tZ zr zr zr zr ?_|refine ub zr zr zr zr zr zr zr ?_|refine tY zr zr zr zr zr zr ?_|refine qU zr zr zr zr zr zr ?_)|(refine aK ?_;first|refine eS (U:=aN) 0 zr zr zr zr zr zr ?_|refine eS (U:=aN) 1 zr zr zr zr zr zr ?_|refine eS (U:=aN) 2 zr zr zr zr zr zr ?_|refine eS (U:=aN) 3 zr zr zr zr zr zr ?_|refine eS (U:=aN) 4 zr zr zr zr zr zr ?_|refine eS (U:=aN) 5 zr zr zr zr zr zr ?_|refine hD (U:=aN) 0 zr zr zr zr zr zr ?_|refine hD (U:=aN) 1 zr zr zr zr zr zr ?_|refine hD (U:=aN) 2 zr zr zr zr zr zr ?_)|(refine tX ?_;first|refine wH zr zr zr ?_|refine wI zr zr zr ?_)|(refine lu ?_;first|refine Js zr zr zr (by simp only[gg];omega) ?_|refine Ct zr zr zr (by simp only[gg];omega) ?_)|(refine eG ?_;refine zi (U:=aN) zr zr zr zr zr zr (by simp only[gg];omega) ?_)|(refine aT ?_;first|refine eO (U:=aN) 0 gE zr zr zr zr zr zr zr zr zr ?_|refine eO (U:=aN) 1 gE zr zr zr zr zr zr zr zr zr ?_|refine eO (U:=aN) 2 gE zr zr zr zr zr zr zr zr zr ?_|refine eO (U:=aN) 3 gE zr zr zr zr zr zr zr zr zr ?_)|refine Fg ?_|refine aE rfl ?_|refine Cq zr zr ?_|refine wF zr zr ?_));exact h.out)):B:=h ⟨a⟩
theorem gO{A B:Prop}(a:A)(h:X4 A→B:=by(intro h;(first|refine Fh (U:=aN) rfl ?_|(refine Jn ?_;first|refine tZ zr zr zr zr ?_|refine ub zr zr zr zr zr zr zr ?_|refine tY zr zr zr zr zr zr ?_|refine qU zr zr zr zr zr zr ?_)|(refine aK ?_;first|refine eS (U:=aN) 0 zr zr zr zr zr zr ?_|refine eS (U:=aN) 1 zr zr zr zr zr zr ?_|refine eS (U:=aN) 2 zr zr zr zr zr zr ?_|refine eS (U:=aN) 3 zr zr zr zr zr zr ?_|refine eS (U:=aN) 4 zr zr zr zr zr zr ?_|refine eS (U:=aN) 5 zr zr zr zr zr zr ?_|refine hD (U:=aN) 0 zr zr zr zr zr zr ?_|refine hD (U:=aN) 1 zr zr zr zr zr zr ?_|refine hD (U:=aN) 2 zr zr zr zr zr zr ?_)|(refine tX ?_;first|refine wH zr zr zr ?_|refine wI zr zr zr ?_)|(refine lu ?_;first|refine Js zr zr zr (by simp only[gg];omega) ?_|refine Ct zr zr zr (by simp only[gg];omega) ?_)|(refine eG ?_;refine zi (U:=aN) zr zr zr zr zr zr (by simp only[gg];omega) ?_)|(refine aT ?_;first|refine eO (U:=aN) 0 gE zr zr zr zr zr zr zr zr zr ?_|refine eO (U:=aN) 1 gE zr zr zr zr zr zr zr zr zr ?_|refine eO (U:=aN) 2 gE zr zr zr zr zr zr zr zr zr ?_|refine eO (U:=aN) 3 gE zr zr zr zr zr zr zr zr zr ?_)|refine Fg ?_|refine aE rfl ?_|refine Cq zr zr ?_|refine wF zr zr ?_);(repeat'(first|refine Fh (U:=aN) rfl ?_|(refine Jn ?_;first|refine tZ zr zr zr zr ?_|refine ub zr zr zr zr zr zr zr ?_|refine tY zr zr zr zr zr zr ?_|refine qU zr zr zr zr zr zr ?_)|(refine aK ?_;first|refine eS (U:=aN) 0 zr zr zr zr zr zr ?_|refine eS (U:=aN) 1 zr zr zr zr zr zr ?_|refine eS (U:=aN) 2 zr zr zr zr zr zr ?_|refine eS (U:=aN) 3 zr zr zr zr zr zr ?_|refine eS (U:=aN) 4 zr zr zr zr zr zr ?_|refine eS (U:=aN) 5 zr zr zr zr zr zr ?_|refine hD (U:=aN) 0 zr zr zr zr zr zr ?_|refine hD (U:=aN) 1 zr zr zr zr zr zr ?_|refine hD (U:=aN) 2 zr zr zr zr zr zr ?_)|(refine tX ?_;first|refine wH zr zr zr ?_|refine wI zr zr zr ?_)|(refine lu ?_;first|refine Js zr zr zr (by simp only[gg];omega) ?_|refine Ct zr zr zr (by simp only[gg];omega) ?_)|(refine eG ?_;refine zi (U:=aN) zr zr zr zr zr zr (by simp only[gg];omega) ?_)|(refine aT ?_;first|refine eO (U:=aN) 0 gE zr zr zr zr zr zr zr zr zr ?_|refine eO (U:=aN) 1 gE zr zr zr zr zr zr zr zr zr ?_|refine eO (U:=aN) 2 gE zr zr zr zr zr zr zr zr zr ?_|refine eO (U:=aN) 3 gE zr zr zr zr zr zr zr zr zr ?_)|refine Fg ?_|refine aE rfl ?_|refine Cq zr zr ?_|refine wF zr zr ?_));exact h.out)):B:=h ⟨a⟩
theorem rG{A B:Prop}(a:A)(h:X4 A→B:=by(intro h;(repeat'(first|refine Fh (U:=aN) rfl ?_|(refine Jn ?_;first|refine tZ zr zr zr zr ?_|refine ub zr zr zr zr zr zr zr ?_|refine tY zr zr zr zr zr zr ?_|refine qU zr zr zr zr zr zr ?_)|(refine aK ?_;first|refine eS (U:=aN) 0 zr zr zr zr zr zr ?_|refine eS (U:=aN) 1 zr zr zr zr zr zr ?_|refine eS (U:=aN) 2 zr zr zr zr zr zr ?_|refine eS (U:=aN) 3 zr zr zr zr zr zr ?_|refine eS (U:=aN) 4 zr zr zr zr zr zr ?_|refine eS (U:=aN) 5 zr zr zr zr zr zr ?_|refine hD (U:=aN) 0 zr zr zr zr zr zr ?_|refine hD (U:=aN) 1 zr zr zr zr zr zr ?_|refine hD (U:=aN) 2 zr zr zr zr zr zr ?_)|(refine tX ?_;first|refine wH zr zr zr ?_|refine wI zr zr zr ?_)|(refine lu ?_;first|refine Js zr zr zr (by simp only[gg];omega) ?_|refine Ct zr zr zr (by simp only[gg];omega) ?_)|(refine eG ?_;refine zi (U:=aN) zr zr zr zr zr zr (by simp only[gg];omega) ?_)|(refine aT ?_;first|refine eO (U:=aN) 0 gE zr zr zr zr zr zr zr zr zr ?_|refine eO (U:=aN) 1 gE zr zr zr zr zr zr zr zr zr ?_|refine eO (U:=aN) 2 gE zr zr zr zr zr zr zr zr zr ?_|refine eO (U:=aN) 3 gE zr zr zr zr zr zr zr zr zr ?_)|refine Fg ?_));exact h.out)):B:=h ⟨a⟩
def iN := @Jq Tryz.prog aN kF
def al := @zR Tryz.prog aN kF
def aO := @Pu Tryz.prog aN kF
def bK := @abE Tryz.prog aN kF
def bg := @Pp Tryz.prog aN kF
def bj := @HI Tryz.prog aN kF
def lF := @RH Tryz.prog aN kF
def ml := @Pq Tryz.prog aN kF
def iX := @Fe Tryz.prog aN kF
def lG := @Cw Tryz.prog aN kF
def bZ := @eO Tryz.prog aN kF
def cO := @abF Tryz.prog aN kF
def aw := @RK Tryz.prog aN kF
def dw := @LN Tryz.prog aN kF
def cJ := @LM Tryz.prog aN kF
def iM := @zg Tryz.prog aN kF
def lH := @hD Tryz.prog aN kF
end Go.Proofs.YtedjnjkijiddlaaGreatDoor
namespace Go.Proofs.YtedjnjkijiddlaaGreatDoor
open Go Go.SL
theorem OS{A:HP}{v:Value}{bs:List UInt8}(hv:Vw A v bs.length (bV bs))(h:0<bs.length):∃b o c,v = .slice (some ⟨b,o,none⟩) bs.length c:=hv.some (by cases bs with
 | nil=>simp at h
 | cons x l=>simp[bV])
theorem wz{bs:List UInt8}{i:Nat}(h:i<bs.length):(bV bs)[i]?=some (u8 (bs.getD i 0)):=by
 rw[List.getD_eq_getElem?_getD]
 simp[bV,h]
theorem xr{x q:Nat}(y:Nat)(h:x*2 ^ (min q 64)=y)(hy:y<9223372036854775808):Value.int .i64 (IntKind.i64.wrap ((x:Int)*2 ^ (min ((q:Int).toNat) IntKind.i64.bits))) = .int .i64 (y:Int):=by
 have e:(x:Int)*2 ^ (min ((q:Int).toNat) IntKind.i64.bits)=(y:Int):=by
  show(x:Int)*2 ^ (min q 64)=_
  rw[← h];push_cast;rfl
 rw[e,cK (by simp only[gg];omega)]
end Go.Proofs.YtedjnjkijiddlaaGreatDoor
namespace Go.SL
def uv(n:Nat):List UInt8:=if n<128 then [UInt8.ofNat n]else UInt8.ofNat (n%128+128)::uv (n/128)
termination_by n
decreasing_by omega
theorem fO{n:Nat}(h:n<128):uv n=[UInt8.ofNat n]:=by rw[uv,if_pos h]
theorem wR{n:Nat}(h:¬n<128):uv n=UInt8.ofNat (n%128+128)::uv (n/128):=by rw[uv,if_neg h]
theorem wQ:∀(k n:Nat),n<128 ^ (k+1)→(uv n).length≤k+1
 | 0,n,h=>by rw[fO (by simpa using h)];simp
 | k+1,n,h=>by
  by_cases hn:n<128
  ·rw[fO hn];simp
  ·rw[wR hn,List.length_cons]
   have:=wQ k (n/128) (Nat.div_lt_of_lt_mul (by rw[Nat.pow_succ,Nat.mul_comm]at h;exact h))
   omega
theorem pr{n:Nat}(h:n<18446744073709551616):(uv n).length≤10:=wQ 9 n (Nat.lt_of_lt_of_le h (by decide))
theorem FW(n:Nat):0<(uv n).length:=by
 by_cases h:n<128
 ·rw[fO h];simp
 ·rw[wR h];simp
theorem abj(m:Nat):Value.int .u8 (IntKind.u8.wrap (m:Int)) = .int .u8 ((m%256:Nat):Int):=by
 have h:IntKind.u8.wrap (m:Int)=(m:Int)%256:=by simp[IntKind.wrap,IntKind.bits,IntKind.signed]
 rw[h];congr 1
theorem Qx(m:Nat):Value.int .u8 (IntKind.u8.wrap ((BitVec.ofInt IntKind.u8.bits ((m%256:Nat):Int) ||| BitVec.ofInt IntKind.u8.bits 128).toNat:Int))=u8 (UInt8.ofNat (m%128+128)):=by
 rw[Na _ ah]
 simp only[u8,UInt8.toNat_ofNat']
 congr 1
 omega
def nT:Nat→Nat→List UInt8→Option (Nat × List UInt8 × Bool)
 | _,_,[]=>none
 | i,acc,c::r=>if i=10∨(i=9∧1<c.toNat)then none else if c.toNat<128 then some (acc+c.toNat*2 ^ (7*i),r,decide (i=0∨0<c.toNat))else nT (i+1) (acc+(c.toNat%128)*2 ^ (7*i)) r
def dg(bs:List UInt8):Nat × List UInt8 × Bool:=(nT 0 0 bs).getD (0,[],false)
def cX(bs:List UInt8):Option Nat:=if(dg bs).2.2=true∧(dg bs).2.1=[]then some (dg bs).1 else none
theorem H7{i acc c:Nat}(ha:acc<2 ^ (7*i))(hc:c<128):acc+c*2 ^ (7*i)<2 ^ (7*(i+1)):=by
 have h1:acc+c*2 ^ (7*i)<(c+1)*2 ^ (7*i):=by rw[Nat.add_mul,Nat.one_mul];omega
 have h2:(c+1)*2 ^ (7*i)≤128*2 ^ (7*i):=Nat.mul_le_mul_right _ ah
 have h3:2 ^ (7*(i+1))=128*2 ^ (7*i):=by rw[show 7*(i+1)=7*i+7 from by omega,Nat.pow_add,Nat.mul_comm]
 omega
theorem P'{i acc c:Nat}(hi:i≤9)(ha:acc<2 ^ (7*i))(hc:c<128)(h9:i=9→c≤1):acc+c*2 ^ (7*i)<18446744073709551616:=by
 by_cases h:i=9
 ·subst h
  have:=h9 rfl
  have h63:(2:Nat) ^ (7*9)=9223372036854775808:=by decide
  rw[h63]at ha ⊢
  have:c*9223372036854775808≤1*9223372036854775808:=Nat.mul_le_mul_right _ this
  omega
 ·have h1:=H7 ha hc
  have h2:2 ^ (7*(i+1))≤2 ^ 63:=Nat.pow_le_pow_right ah ah
  omega
theorem I6:∀(k n i acc:Nat) (rest:List UInt8),n<128 ^ (k+1)→i+k≤8→(i≠0→n≠0)→nT i acc (uv n++rest)=some (acc+n*2 ^ (7*i),rest,true)
 | k,n,i,acc,rest,hn,hik,h0=>by
  by_cases h:n<128
  ·rw[fO h]
   have e:(UInt8.ofNat n).toNat=n:=by simp only[UInt8.toNat_ofNat'];omega
   simp only[List.cons_append,List.nil_append,nT,e]
   rw[if_neg ah,if_pos h]
   have:(i=0∨0<n):=by
    by_cases hi:i=0
    ·exact .inl hi
    ·exact .inr (by have:=h0 hi;omega)
   rw[decide_eq_true this]
  ·cases k with
   | zero=>simp at hn;omega
   | succ k =>
    rw[wR h]
    have e:(UInt8.ofNat (n%128+128)).toNat=n%128+128:=by simp only[UInt8.toNat_ofNat'];omega
    simp only[List.cons_append,nT,e]
    rw[if_neg ah,if_neg ah,show(n%128+128)%128=n%128 from by omega,
     I6 k (n/128) (i+1) _ rest (Nat.div_lt_of_lt_mul (by rw[Nat.pow_succ,Nat.mul_comm]at hn;exact hn)) ah (by intro _;omega)]
    have h3:n/128*2 ^ (7*(i+1))=n/128*128*2 ^ (7*i):=by rw[show 7*(i+1)=7+7*i from by omega,Nat.pow_add,Nat.mul_assoc]
    have h4:n%128*2 ^ (7*i)+n/128*128*2 ^ (7*i)=n*2 ^ (7*i):=by rw[← Nat.add_mul];congr 1;omega
    rw[h3,Nat.add_assoc,h4]
theorem I7{n:Nat}(h:n<9223372036854775808)(rest:List UInt8):dg (uv n++rest)=(n,rest,true):=by
 unfold dg
 rw[I6 8 n 0 0 rest (Nat.lt_of_lt_of_le h (by decide)) ah (by intro h;exact absurd rfl h)]
 simp
theorem um{n:Nat}(h:n<9223372036854775808):cX (uv n)=some n:=by
 have:=I7 h []
 rw[List.append_nil]at this
 unfold cX
 rw[this];simp
def lQ(bs:List UInt8):Option (Nat × Nat) :=
 if 1≤bs.length then match cX (bs.take 1)with
  | some n=>some (1,n)
  | none=>if 2≤bs.length then(cX (bs.take 2)).map fun n=>(2,n)else none
 else none
theorem oh{bs:List UInt8}{n:Nat}(h:cX bs=some n)(hl:bs.length≤2):n<16384:=by
 unfold cX dg at h
 split at h
 ·rename_i hh
  cases h
  match bs,hl with
  | [],_=>simp[nT]at hh
  | [a],_ =>
   by_cases ha:a.toNat<128
   ·simp[nT,ha];omega
   ·simp[nT,ha]at hh
  | [a,b],_ =>
   by_cases ha:a.toNat<128
   ·simp[nT,ha];omega
   ·by_cases hb:b.toNat<128
    ·simp[nT,ha,hb];omega
    ·simp[nT,ha,hb]at hh
 ·cases h
end Go.SL
namespace Go.Proofs.YtedjnjkijiddlaaGreatDoor
open Go Go.SL
attribute [local irreducible] J K aD Ends ag aB aM bN aZ aP aV bh
theorem l9(n:Nat)(h:n<18446744073709551616):aD Tryz.prog 94 [.int .u64 (n:Int)] [] (fun r H=>H=[aB 5 1 r (uv n).length (bV (uv n))]):=by
 refine aD.enter Tryz.func94 ak rfl Tryz.ntmps94 zr zr ?_
 intro G F R hE
 refine go ?_
 (first|refine aj (bJ 5 1 none _) ?_|refine aG (bJ 5 1 none _) ?_)
 have ab':=pr h
 refine bu (fun s:Nat × List UInt8 × Value=>s.2.1++uv s.1=uv n∧s.1≤n) (fun s=>s.1)
  (fun s=>[(0,.int .u64 (s.1:Int)),(3,s.2.2)])
  (fun s=>aB 5 1 s.2.2 s.2.1.length (bV s.2.1)::F) (n,[],.slice none 0 0) ⟨rfl,Nat.le_refl _⟩ rfl cu ad ?_
 rintro⟨m,done,v⟩⟨hm,Yj⟩ ih
 simp only at hm Yj
 have hlen:done.length+(uv m).length≤10:=by rw[← List.length_append,hm];exact ab'
 have kX:=FW m
 (first|refine aJ 0 rfl ?_|refine dv 0 rfl ?_)
 rintro va vc hve
 simp only at hve
 subst hve
 refine go ?_
 refine au zr zr ?_ ?_
 ·intro fq
  simp only at fq
  have uK:¬m<128:=by omega
  refine go ?_
  refine iN zr zr zr zr zr zr ?_
  refine az 10 (.int .u8 ((m%256:Nat):Int)) rfl (abj m) ?_
  refine go ?_
  refine az 11 (u8 (UInt8.ofNat (m%128+128))) rfl (Qx m) ?_
  refine al (cs:=bV [UInt8.ofNat (m%128+128)]) zr zr zr zr zr zr zr zr zr bz ?_
  intro b1
  refine aO (mm:=1) (news:=bV [UInt8.ofNat (m%128+128)]) 1 0 zr zr zr zr zr zr zr zr zr zr zr zr (Vw.ag rfl) rfl (cR _) (by simp only;omega) (by show(_+1)*1≤_;simp only;omega) (fun _=>rfl) bz ?_
  intro v1
  rw[show bV done++bV [UInt8.ofNat (m%128+128)]=bV (done++[UInt8.ofNat (m%128+128)])from by simp[bV],show done.length+1=(done++[UInt8.ofNat (m%128+128)]).length from by simp]
  (first|refine aJ 1 rfl ?_|refine dv 1 rfl ?_)
  rintro wa wc rfl
  refine go ?_
  refine iW zr zr zr ah ?_
  refine az 7 (.int .u64 ((m/128:Nat):Int)) rfl (congrArg (Value.int .u64) (by show(m:Int)/128=_;omega)) ?_
  refine go ?_
  refine aL ih (m/128,done++[UInt8.ofNat (m%128+128)],_) rfl ⟨by simp only[List.append_assoc,List.singleton_append];rw[← wR uK];exact hm,by simp only;omega⟩ (by simp only;omega) cu ad
 ·intro cW
  simp only at cW
  have zE:m<128:=by omega
  refine go ?_
  refine az 16 (u8 (UInt8.ofNat m)) rfl (by simp only[u8,UInt8.toNat_ofNat'];congr 1;omega) ?_
  refine al (cs:=bV [UInt8.ofNat m]) zr zr zr zr zr zr zr zr zr bz ?_
  intro b1
  refine aO (mm:=1) (news:=bV [UInt8.ofNat m]) 1 0 zr zr zr zr zr zr zr zr zr zr zr zr (Vw.ag rfl) rfl (cR _) (by simp only;omega) (by show(_+1)*1≤_;simp only;omega) (fun _=>rfl) bz ?_
  intro v1
  rw[show bV done++bV [UInt8.ofNat m]=bV (uv n)from by rw[← hm,fO zE];simp[bV],show done.length+1=(uv n).length from by rw[← hm,fO zE];simp]
  refine go ?_
  (first|refine ae hE Tryz.func94 rfl _ zr zr ad|refine bS hE Tryz.func94 rfl _ zr zr ad)
theorem Al{x q y:Nat}(hq:q≤64)(h:x*2 ^ q=y)(hy:y<18446744073709551616):Value.int .u64 (IntKind.u64.wrap ((x:Int)*2 ^ (min ((q:Int).toNat) IntKind.u64.bits))) = .int .u64 (y:Int):=by
 have e:(x:Int)*2 ^ (min ((q:Int).toNat) IntKind.u64.bits)=(y:Int):=by
  show(x:Int)*2 ^ (min q 64)=_
  rw[Nat.min_eq_left hq,← h];push_cast;rfl
 rw[e,cK (by simp only[gg];omega)]
theorem DJ(A:HP):Vw A (.slice none 0 0) ([]:List UInt8).length (bV []):=⟨none,0,rfl,.inl rfl⟩
set_option maxRecDepth 20000 in
theorem I5(A:HP)(v:Value)(bs:List UInt8)(hv:Vw A v bs.length (bV bs))(jl:∃a c,v = .slice a bs.length c∧bs.length≤c)(hl:bs.length≤9223372036854775807) :
    aD Tryz.prog 220 [v] [A] (fun r H=>∃rv,r = .tuple #[.int .u64 ((dg bs).1:Int),rv,.bool (dg bs).2.2]∧(Vw A rv (dg bs).2.1.length (bV (dg bs).2.1)∧∃a c,rv = .slice a (dg bs).2.1.length c∧(dg bs).2.1.length≤c)∧H=[A]):=by
  obtain⟨a0,c0,rfl,sj⟩:=jl
  refine aD.enter Tryz.func220 ak rfl Tryz.ntmps220 zr zr ?_
  intro G F R hE
  refine go ?_
  refine bu (fun s:Nat × Nat=>s.1≤bs.length∧s.1≤10∧(s.1≤9→s.2<2 ^ (7*s.1))∧nT 0 0 bs=nT s.1 s.2 (bs.drop s.1)) (fun s=>bs.length-s.1)
    (fun s=>[(0,.slice a0 bs.length c0),(5,.int .u64 (s.2:Int)),(8,.slice a0 bs.length c0),(9,.int .i64 bs.length),(10,.int .i64 s.1)])
    (fun _=>A::F) (0,0) ⟨Nat.zero_le _,ah,by simp,by simp⟩ rfl cu ad ?_
  rintro⟨i,acc⟩⟨hi,yi,vW,ll⟩ ih
  simp only at hi yi vW ll
  refine go ?_
  refine au zr zr ?_ ?_
  case' refine_2 =>
    intro fq
    simp only at fq
    have WN:dg bs=(0,[],false):=by
      unfold dg;rw[ll,List.drop_eq_nil_of_le ah];simp[nT]
    refine go ?_
    rw[WN]at hE
    (first|refine ae hE Tryz.func220 rfl _ rfl ⟨_,rfl,⟨DJ A,none,0,rfl,Nat.le_refl _⟩,rfl⟩ ad|refine bS hE Tryz.func220 rfl _ rfl ⟨_,rfl,⟨DJ A,none,0,rfl,Nat.le_refl _⟩,rfl⟩ ad)
  intro cW
  simp only at cW
  have gw:i<bs.length:=by omega
  obtain⟨ba,oa,ca,gb⟩:=OS hv ah
  simp only[Value.slice.injEq,true_and]at gb
  obtain⟨rfl,rfl⟩:=gb
  obtain⟨c,hc⟩:∃c,bs[i]?=some c:=⟨bs[i],by simp⟩
  have Yr:bs.drop i=c::bs.drop (i+1):=by
    rw[List.drop_eq_getElem_cons gw];congr 1
    rw[List.getElem?_eq_getElem gw]at hc;exact Option.some.inj hc
  have Sn:c.toNat<256:=c.toNat_lt
  rw[Yr]at ll
  simp only[nT]at ll
  refine go ?_
  refine bK i zr zr zr zr zr zr zr zr gw ?_
  refine bg 0 i zr zr zr hv rfl (oU hc) zr zr ?_
  repeat'(first|(with_reducible intro qh)|refine gO ?_|refine qt ?_ ?_|refine iC zr zr zr zr ?_ ?_|refine au zr zr ?_ ?_)
  case' refine_1 =>
    have lp:(i=10∨(i=9∧1<c.toNat)):=by simp only at *;omega
  case' refine_2.refine_1.refine_1 =>
    have lp:(i=10∨(i=9∧1<c.toNat)):=by simp only at *;omega
  case' refine_2.refine_1.refine_2 => 
    have mN:¬(i=10∨(i=9∧1<c.toNat)):=by simp only at *;omega
  case' refine_2.refine_2 => 
    have mN:¬(i=10∨(i=9∧1<c.toNat)):=by simp only at *;omega
  any_goals (
    have WN:dg bs=(0,[],false):=by unfold dg;rw[ll,if_pos lp];rfl
    rw[WN]at hE
    (first|refine ae hE Tryz.func220 rfl _ rfl ⟨_,rfl,⟨DJ A,none,0,rfl,Nat.le_refl _⟩,rfl⟩ ad|refine bS hE Tryz.func220 rfl _ rfl ⟨_,rfl,⟨DJ A,none,0,rfl,Nat.le_refl _⟩,rfl⟩ ad))
  all_goals(
    have hi9:i≤9:=by omega
    have hac:=vW hi9
    have Sb:c.toNat%128<128:=Nat.mod_lt _ ah
    have Et:=P' (c:=c.toNat%128) hi9 hac Sb (by intro h;omega)
    refine az 27 (.int .u8 ((c.toNat%128:Nat):Int)) rfl (congrArg (Value.int .u8) (Cj _ Sn)) ?_
    refine go ?_
    refine gT zr zr zr (by simp only[gg];omega) ?_
    refine az 30 (.int .i64 ((7*i:Nat):Int)) rfl (congrArg (Value.int .i64) (by simp only;omega)) ?_
    refine np zr zr zr ah ?_
    refine az 31 (.int .u64 ((c.toNat%128*2 ^ (7*i):Nat):Int)) rfl (Al ah rfl ah) ?_
    refine go ?_
    refine bB 5 (.int .u64 ((acc+c.toNat%128*2 ^ (7*i):Nat):Int)) rfl (congrArg (Value.int .u64) (Wc hac Et)) ?_
    refine go ?_
    refine au zr zr ?_ ?_
    · intro adM
      have hcm:c.toNat%128=c.toNat:=by omega
      have GS:dg bs=(acc+c.toNat%128*2 ^ (7*i),bs.drop (i+1),decide (i=0∨0<c.toNat)):=by
        unfold dg;rw[ll,if_neg mN,if_pos ah,hcm];rfl
      refine aF (fun w=>Sat G w ([])) (kA 0 14 .nil) rfl ak ak ak ei ?_
      refine go ?_
      refine bj (p:=(i:Int)+1) (q:=(bs.length:Int)) zr zr zr zr zr zr zr ah ah (.inl rfl) ?_
      refine az 39 (.slice (sliceAt (some ⟨ba,oa,none⟩) c0 (i+1) 1) (bs.drop (i+1)).length (c0-(i+1))) rfl (by rw[show((i:Int)+1).toNat=i+1 from by omega,show((bs.length:Int)).toNat=bs.length from by omega,List.length_drop];rfl) ?_
      have IF:Vw A (.slice (sliceAt (some ⟨ba,oa,none⟩) c0 (i+1) 1) (bs.drop (i+1)).length (c0-(i+1))) (bs.drop (i+1)).length (bV (bs.drop (i+1))):=by
        have:=hv.OI (s:=1) (by rw[bt];omega) sj (i+1) ah
        rw[List.length_drop,show bV (bs.drop (i+1))=(bV bs).drop ((i+1)*1)from by simp[bV,List.map_drop]]
        exact this
      rw[GS]at hE
      repeat'(first|(with_reducible intro qh)|refine gO ?_|refine qt ?_ ?_|refine iC zr zr zr zr ?_ ?_|refine au zr zr ?_ ?_)
      all_goals first
        | (have KL:i=0:=(by simp only at qh;omega)
           rw[decide_eq_true (Or.inl KL:i=0∨0<c.toNat)]at hE
           (first|refine ae hE Tryz.func220 rfl _ rfl ⟨_,rfl,⟨IF,_,_,rfl,by simp only[List.length_drop];omega⟩,rfl⟩ ad|refine bS hE Tryz.func220 rfl _ rfl ⟨_,rfl,⟨IF,_,_,rfl,by simp only[List.length_drop];omega⟩,rfl⟩ ad))
        | (have KL:¬i=0:=(by simp only at qh;omega)
           rw[show decide (i=0∨0<c.toNat)=decide ((0:Int)<(c.toNat:Int))from decide_eq_decide.2 ⟨fun h=>by omega,fun h => .inr ah⟩]at hE
           (first|refine ae hE Tryz.func220 rfl _ rfl ⟨_,rfl,⟨IF,_,_,rfl,by simp only[List.length_drop];omega⟩,rfl⟩ ad|refine bS hE Tryz.func220 rfl _ rfl ⟨_,rfl,⟨IF,_,_,rfl,by simp only[List.length_drop];omega⟩,rfl⟩ ad))
    · intro adw
      refine go ?_
      refine aL ih (i+1,acc+c.toNat%128*2 ^ (7*i)) rfl ⟨by simp only;omega,by simp only;omega,fun _=>H7 hac Sb,by rw[ll,if_neg mN,if_neg ah]⟩ (by simp only;omega) cu ad)
def eJ(A:HP)(v:Value)(bs:List UInt8):Prop:=Vw A v bs.length (bV bs)∧∃a c,v = .slice a bs.length c∧bs.length≤c
theorem eJ.cut{A:HP}{a:Option Addr}{n c:Nat}{bs:List UInt8}(h:eJ A (.slice a n c) bs)(p:Nat)(hp:p≤bs.length):eJ A (.slice (sliceAt a c p 1) (bs.length-p) (c-p)) (bs.drop p):=by
 obtain⟨hv,a',c',he,hc⟩:=h
 simp only[Value.slice.injEq]at he
 obtain⟨rfl,rfl,rfl⟩:=he
 refine⟨?_,_,_,by rw[List.length_drop],by rw[List.length_drop];omega⟩
 have:=hv.OI (s:=1) (by rw[bt];omega) hc p hp
 rw[List.length_drop,show bV (bs.drop p)=(bV bs).drop (p*1)from by simp[bV,List.map_drop]]
 exact this
theorem eJ.front{A:HP}{a:Option Addr}{n c:Nat}{bs:List UInt8}(h:eJ A (.slice a n c) bs)(q:Nat)(hq:q≤bs.length):eJ A (.slice (sliceAt a c 0 1) q c) (bs.take q):=by
 obtain⟨hv,a',c',he,hc⟩:=h
 simp only[Value.slice.injEq]at he
 obtain⟨rfl,rfl,rfl⟩:=he
 have hl:(bs.take q).length=q:=by rw[List.length_take];omega
 refine⟨?_,_,_,by rw[hl],by rw[hl];omega⟩
 have:=hv.ado (s:=1) q
 rw[hl,show bV (bs.take q)=(bV bs).take (q*1)from by simp[bV,List.map_take]]
 exact this
theorem eJ.mono{A B:HP}{v:Value}{bs:List UInt8}(h:eJ A v bs)(Xv:∀h,B h→∃h',sub h' h∧A h'):eJ B v bs:=⟨h.1.mono Xv,h.2⟩
theorem eJ.piece{A:HP}{a:Option Addr}{n c:Nat}{bs:List UInt8}(h:eJ A (.slice a n c) bs)(p q:Nat)(hp:p≤q)(hq:q≤bs.length):eJ A (.slice (sliceAt a c p 1) (q-p) (c-p)) ((bs.drop p).take (q-p)):=by
 have h1:=h.cut p ah
 obtain⟨hv,a',c',he,hc⟩:=h1
 have hlen:((bs.drop p).take (q-p)).length=q-p:=by rw[List.length_take,List.length_drop];omega
 refine⟨?_,_,_,by rw[hlen],by rw[hlen];obtain⟨_,_,_,zM,mC⟩:=h;simp only[Value.slice.injEq]at zM;omega⟩
 obtain⟨a2,oQ,zM,h0|⟨b,o,ha,mC⟩⟩:=hv
 ·simp only[Value.slice.injEq]at zM
  have:(bs.drop p)=[]:=by simpa[bV]using h0
  refine⟨_,_,by rw[hlen],.inl ?_⟩
  rw[this];simp[bV]
 ·simp only[Value.slice.injEq]at zM
  refine⟨_,_,by rw[hlen],.inr ⟨b,o,by rw[zM.1,ha],fun h' hA j x hj=>?_⟩⟩
  refine mC h' hA j x ?_
  rw[show bV ((bs.drop p).take (q-p))=(bV (bs.drop p)).take (q-p)from by simp[bV,List.map_take]]at hj
  rw[List.getElem?_take]at hj
  split at hj
  ·exact hj
  ·cases hj
theorem me(A:HP)(v:Value)(bs:List UInt8)(hv:eJ A v bs)(hl:bs.length≤9223372036854775807) :
  aD Tryz.prog 199 [v] [A] (fun r H=>r=(match cX bs with
   | some n => .tuple #[.int .u64 (n:Int),.int .i64 0]
   | none => .tuple #[.int .u64 0,.int .i64 2])∧H=[A]):=by
 refine aD.enter Tryz.func199 ak rfl Tryz.ntmps199 zr zr ?_
 intro G F R hE
 refine go ?_
 ((refine ai zr zr zr zr (I5 A v bs hv.1 hv.2 hl) ad ?_ bG))
 rintro _ _⟨rv,rfl,⟨IF,a,c,rfl,_⟩,rfl⟩
 cases lC:(dg bs).2.2 with
 | false =>
  have hn:cX bs=none:=by unfold cX;rw[if_neg (by rw[lC];simp)]
  rw[hn]at hE
  refine go ?_
  ((refine ae hE Tryz.func199 rfl _ rfl ⟨rfl,rfl⟩ ad))
 | true =>
  repeat'(first|(with_reducible intro qh)|refine gO ?_|refine au zr zr ?_ ?_)
  ·have hn:cX bs=none:=by unfold cX;rw[if_neg (fun h=>by rw[h.2]at qh;simp at qh)]
   rw[hn]at hE
   ((refine ae hE Tryz.func199 rfl _ rfl ⟨rfl,rfl⟩ ad))
  ·have hn:cX bs=some (dg bs).1:=by unfold cX;rw[if_pos ⟨lC,List.eq_nil_of_length_eq_zero ah⟩]
   rw[hn]at hE
   ((refine ae hE Tryz.func199 rfl _ rfl ⟨rfl,rfl⟩ ad))
def aR(bs:List UInt8):List UInt8:=uv bs.length++bs
end Go.Proofs.YtedjnjkijiddlaaGreatDoor
namespace Go.Proofs.YtedjnjkijiddlaaGreatDoor
open Go Go.SL
theorem H9{e:TypeId}{v:Value}{bs:List UInt8}(h0:∃h,aB e 1 v bs.length (bV bs) h):eJ (aB e 1 v bs.length (bV bs)) v bs:=by
 refine⟨Vw.oD e 1 v bs.length (bV bs) h0,?_⟩
 obtain⟨h,hl,⟨a,rfl,hn,_⟩|⟨b,o,cap,pre,bQ,rfl,hp,hn,hc,_⟩⟩:=h0
 ·exact⟨a,0,by rw[hn],ah⟩
 ·exact⟨_,cap,rfl,hn⟩
section
variable{P:Program}{f:FuncId}{n:Nat}{R:Ending→World→Prop}{G:cC}{k:List Item}{L:fC}{H:List HP}{S:World→Prop}{all:Array Oper}{rest:Pl}
theorem gB{e:TypeId}{v:Value}{bs:List UInt8}(i:Nat)(hi:cq H i=some (aB e 1 v bs.length (bV bs)))(h:eJ (aB e 1 v bs.length (bV bs)) v bs→J P f n R G S all rest k L H):J P f n R G S all rest k L H :=
 ze fun w hw=>by
  obtain⟨h1,_,hA⟩:=hw.kQ hi
  exact h (H9 ⟨h1,hA⟩)
theorem ql{e:TypeId}{v:Value}{bs:List UInt8}(i:Nat)(hi:cq H i=some (aB e 1 v bs.length (bV bs)))(h:eJ (aB e 1 v bs.length (bV bs)) v bs→K P f n R G k L H):K P f n R G k L H :=
 rN fun⟨w,hw⟩=>by
  obtain⟨h1,_,hA⟩:=hw.kQ hi
  exact h (H9 ⟨h1,hA⟩)
end
theorem aW{H:List HP}{i:Nat}{A:HP}(hi:cq H i=some A):∀h,Sep H h→∃h',sub h' h∧A h':=fun h hs=>by
 rw[dA]at hi
 obtain⟨h',QO,hA⟩:=ao.perm (cZ hi) h hs
 obtain⟨h1,h2,ha,_,hd,hj⟩:=hA
 refine⟨h1,fun b o hb=>?_,ha⟩
 refine QO b o ?_
 rw[hj b,hb];rfl
end Go.Proofs.YtedjnjkijiddlaaGreatDoor
namespace Go.Proofs.YtedjnjkijiddlaaGreatDoor
open Go Go.SL
def lR(x:Int × List UInt8):List UInt8:=UInt8.ofNat x.1.toNat::(uv x.2.length++x.2)
def ek(l:List (Int × List UInt8)):List UInt8:=l.flatMap lR
def py:Nat→List UInt8→List (Int × List UInt8)
 | 0,_=>[]
 | f+1,b=>match b with
  | []=>[]
  | c::r=>if(dg r).2.2=true∧(dg r).1≤(dg r).2.1.length then((c.toNat:Int),(dg r).2.1.take (dg r).1)::py f ((dg r).2.1.drop (dg r).1)else [(0,[])]
def fk:Int→List (Int × List UInt8)→Bool
 | _,[]=>true
 | last,x::l=>decide (last<x.1) && decide (x.1≤63) && fk x.1 l
def pg(b:List UInt8):Option (List (Int × List UInt8)):=if 65536<b.length then none else if fk 0 (py b.length b)then some (py b.length b)else none
structure It where
 n:Int
 v:Value
 b:List UInt8
instance:Inhabited It:=⟨⟨0,.slice none 0 0,[]⟩⟩
def lB(x:It):List Value:=[.int .i64 x.n,x.v]
theorem iY(x:It):(lB x).length=2:=rfl
def It.p(x:It):Int × List UInt8:=(x.n,x.b)
def ud(X:HP)(v:Value)(l:List It):Prop:=Vw X v l.length (l.flatMap lB)∧∀x∈l,eJ X x.v x.b
theorem Dt(a b:List (Int × List UInt8)):ek (a++b)=ek a++ek b:=by simp[ek]
theorem Aq(l:List (Int × List UInt8))(i:Nat):(ek (l.take i)).length≤(ek l).length:=by
 conv=>rhs;rw[← List.take_append_drop i l]
 rw[Dt,List.length_append];omega
def nF(l:List (Int × List UInt8))(i:Nat):Int:=match (l.take i).getLast? with
 | some x=>x.1
 | none=>0
theorem MM:∀(l:List (Int × List UInt8)) (last:Int) (i:Nat) (x:Int × List UInt8),fk last l=true→l[i]?=some x→(match (l.take i).getLast? with|some y=>y.1|none=>last)<x.1∧x.1≤63:=by
 intro l
 induction l with
 | nil=>intro last i x h hx;simp at hx
 | cons y l ih =>
  intro last i x h hx
  simp only[fk,Bool.and_eq_true,decide_eq_true_eq]at h
  cases i with
  | zero=>simp at hx;subst hx;simpa using h.1
  | succ i =>
   simp only[List.getElem?_cons_succ]at hx
   have:=ih y.1 i x h.2 hx
   rw[List.take_succ_cons]
   cases hl:l.take i with
   | nil=>rw[hl]at this;simpa using this
   | cons z r=>rw[hl]at this;rw[List.getLast?_cons_cons];exact this
theorem xV{l:List (Int × List UInt8)}{i:Nat}{x:Int × List UInt8}(h:l[i]?=some x):nF l (i+1)=x.1:=by
 unfold nF
 rw[List.take_add_one,h];simp
theorem ML:∀(l:List (Int × List UInt8)) (last:Int),fk last l=true→0≤last→∀x∈l,0<x.1:=by
 intro l
 induction l with
 | nil=>intro last h h0 x hx;cases hx
 | cons y l ih =>
  intro last h h0 x hx
  simp only[fk,Bool.and_eq_true,decide_eq_true_eq]at h
  rcases List.mem_cons.1 hx with rfl|hx
  ·omega
  ·exact ih y.1 h.2 ah x hx
theorem OJ:∀(bs:List UInt8) (i acc n:Nat) (r:List UInt8) (ok:Bool),nT i acc bs=some (n,r,ok)→r.length<bs.length:=by
 intro bs
 induction bs with
 | nil=>intro i acc n r ok h;simp[nT]at h
 | cons c bs ih =>
  intro i acc n r ok h
  simp only[nT]at h
  split at h
  ·cases h
  ·split at h
   ·simp only[Option.some.injEq,Prod.mk.injEq]at h
    rw[← h.2.1,List.length_cons];omega
   ·have:=ih _ _ n r ok h
    rw[List.length_cons];omega
theorem qc(bs:List UInt8):(dg bs).2.1.length≤bs.length:=by
 unfold dg
 cases h:nT 0 0 bs with
 | none=>simp
 | some x =>
  obtain⟨n,r,ok⟩:=x
  have:=OJ bs 0 0 _ _ _ h
  simp only[Option.getD_some];omega
theorem Ac:∀(f g:Nat) (b:List UInt8),b.length≤f→b.length≤g→py f b=py g b
 | 0,0,_,_,_=>rfl
 | 0,g+1,b,hf,_=>by
  have:b=[]:=List.eq_nil_of_length_eq_zero ah
  subst this;rfl
 | f+1,0,b,_,hg=>by
  have:b=[]:=List.eq_nil_of_length_eq_zero ah
  subst this;rfl
 | f+1,g+1,[],_,_=>rfl
 | f+1,g+1,c::r,hf,hg=>by
  rw[py,py]
  have:=qc r
  rw[List.length_cons]at hf hg
  split
  ·rw[Ac f g _ (by rw[List.length_drop];omega) (by rw[List.length_drop];omega)]
  ·rfl
def eQ(b:List UInt8):List (Int × List UInt8):=py b.length b
theorem wX:eQ []=[]:=rfl
theorem Ad{c:UInt8}{r:List UInt8}(h:(dg r).2.2=true∧(dg r).1≤(dg r).2.1.length):eQ (c::r)=((c.toNat:Int),(dg r).2.1.take (dg r).1)::eQ ((dg r).2.1.drop (dg r).1):=by
 have h1:=qc r
 unfold eQ
 rw[List.length_cons,py]
 rw[if_pos h,Ac _ _ _ (by rw[List.length_drop];omega) (Nat.le_refl _)]
theorem CX{c:UInt8}{r:List UInt8}(h:¬((dg r).2.2=true∧(dg r).1≤(dg r).2.1.length)):eQ (c::r)=[(0,[])]:=by
 unfold eQ
 rw[List.length_cons,py]
 rw[if_neg h]
theorem sM:∀(f:Nat) (b:List UInt8),b.length≤f→(eQ b).length≤b.length
 | 0,b,h=>by
  have:b=[]:=List.eq_nil_of_length_eq_zero ah
  subst this;simp[wX]
 | f+1,[],_=>by simp[wX]
 | f+1,c::r,h=>by
  have h1:=qc r
  rw[List.length_cons]at h
  by_cases hk:(dg r).2.2=true∧(dg r).1≤(dg r).2.1.length
  ·have h2:=sM f ((dg r).2.1.drop (dg r).1) (by rw[List.length_drop];omega)
   rw[List.length_drop]at h2
   rw[Ad hk,List.length_cons,List.length_cons]
   omega
  ·rw[CX hk,List.length_cons];simp
def tB(xs:List (Int × List UInt8))(i:Nat):Bool:=match xs[i]? with
 | some x=>decide (nF xs i<x.1) && decide (x.1≤63)
 | none=>true
theorem yv{xs:List (Int × List UInt8)}{i:Nat}{x:Int × List UInt8}(h:xs[i]?=some x):tB xs i=(decide (nF xs i<x.1) && decide (x.1≤63)):=by unfold tB;rw[h]
theorem MN:∀(l:List (Int × List UInt8)) (last:Int),(fk last l=true↔∀i x,l[i]?=some x→(match (l.take i).getLast? with|some y=>y.1|none=>last)<x.1∧x.1≤63):=by
 intro l
 induction l with
 | nil=>intro last;simp[fk]
 | cons y l ih =>
  intro last
  simp only[fk,Bool.and_eq_true,decide_eq_true_eq,ih]
  constructor
  ·rintro⟨⟨h1,h2⟩,h3⟩ i x hx
   cases i with
   | zero=>simp at hx;subst hx;exact⟨h1,h2⟩
   | succ i =>
    have:=h3 i x (by simpa using hx)
    rw[List.take_succ_cons]
    cases hl:l.take i with
    | nil=>rw[hl]at this;simpa using this
    | cons z r=>rw[hl]at this;rw[List.getLast?_cons_cons];exact this
  ·intro h
   refine⟨by simpa using h 0 y rfl,fun i x hx=>?_⟩
   have:=h (i+1) x (by simpa using hx)
   rw[List.take_succ_cons]at this
   cases hl:l.take i with
   | nil=>rw[hl]at this;simpa using this
   | cons z r=>rw[hl,List.getLast?_cons_cons]at this;exact this
theorem Ao(xs:List (Int × List UInt8)):fk 0 xs=true↔∀i,i<xs.length→tB xs i=true:=by
 rw[MN]
 constructor
 ·intro h i hi
  have hx:xs[i]?=some xs[i]:=by simp
  rw[yv hx,Bool.and_eq_true,decide_eq_true_eq,decide_eq_true_eq]
  exact h i _ hx
 ·intro h i x hx
  have:=h i (List.getElem?_eq_some_iff.1 hx).1
  rw[yv hx,Bool.and_eq_true,decide_eq_true_eq,decide_eq_true_eq]at this
  exact this
def cU(b:List UInt8):Dg:=ct 0 [b]
def g9(l r:Dg):Dg:=ct 1 [l.bs,r.bs]
def bq:List Dg→List Dg
 | a::b::r=>g9 a b::bq r
 | l=>l
theorem cN:∀l:List Dg,(bq l).length=(l.length+1)/2
 | []=>rfl
 | [a]=>by simp[bq]
 | a::b::r=>by simp only[bq,List.length_cons,cN r];omega
theorem oX:∀(l:List Dg) (i:Nat),(bq l)[i]?=match l[2*i]?,l[2*i+1]? with
  | some a,some b=>some (g9 a b)
  | x,_=>x
 | [],i=>by simp[bq]
 | [a],i=>by
  cases i with
  | zero=>rfl
  | succ i=>simp[bq,show 2*(i+1)=2*i+1+1 from by omega]
 | a::b::r,i=>by
  cases i with
  | zero=>rfl
  | succ i =>
   simp only[bq,List.getElem?_cons_succ,show 2*(i+1)=2*i+1+1 from by omega]
   exact oX r i
def RP:Nat→List Dg→List Dg
 | 0,l=>l
 | f+1,l=>if l.length≤1 then l else RP f (bq l)
def rl(l:List Dg):Dg:=if l=[]then ct 2 []else((RP l.length l).head?).getD Dg.zero
structure Bl where
 d:Dg
 size:Int
 piece:Int
 root:Dg
deriving DecidableEq
instance:Inhabited Bl:=⟨⟨Dg.zero,0,0,Dg.zero⟩⟩
def Bl.zero:Bl:=⟨Dg.zero,0,0,Dg.zero⟩
def bD(x:Bl):List Value:=dC x.d++[.int .i64 x.size,.int .i64 x.piece]++dC x.root
theorem Cc(x:Bl):(bD x).length=66:=rfl
def bo(x:Bl):Bool:=decide (1≤x.size∧x.size≤1048576∧16≤x.piece∧x.piece≤16384∧(x.size+x.piece-1)/x.piece≤1024)
def bO(x:Bl):Int:=if bo x then(x.size+x.piece-1)/x.piece else 0
def cP(x:Bl)(i:Int):Option (Int × Int):=if i<0∨bO x≤i then none else some (i*x.piece,min x.piece (x.size-i*x.piece))
def gf(k:Nat):Nat→List UInt8→List (List UInt8)
 | 0,_=>[]
 | f+1,b=>if b=[]then []else b.take k::gf k f (b.drop k)
def cI(b:List UInt8)(piece:Int):Option (List Dg):=if bo ⟨Dg.zero,b.length,piece,Dg.zero⟩then some ((gf piece.toNat b.length b).map cU)else none
def eC(b:List UInt8)(piece:Int):Option Bl:=(cI b piece).map fun l=>⟨dM b,b.length,piece,rl l⟩
def dP(x:Bl)(b:List UInt8):Bool:=decide (eC b x.piece=some x)
def pw:List Bl→Bool
 | []=>false
 | x::l=>l.any (fun y=>decide (y.d=x.d)) || pw l
def gL(l:List Bl):Nat:=if l.length<1∨16<l.length∨l.any (fun x => !bo x)=true then 1 else if pw l then 5 else 0
def dQ(x:Bl):List (Int × List UInt8):=[(1,x.d.bs),(2,uv x.size.toNat),(3,uv x.piece.toNat),(4,x.root.bs)]
def jj:Nat→List Bl→List (Int × List UInt8)
 | _,[]=>[]
 | i,x::l=>((i:Int)+1,ek (dQ x))::jj (i+1) l
def yD(l:List Bl):List UInt8:=ek (jj 0 l)
def xM(l:List Bl):Dg:=dM (yD l)
def tJ(b:List UInt8):Dg:=if h:b.length=32 then⟨b,h⟩else Dg.zero
def l7(b:List UInt8):Option Bl:=match pg b with
 | some [(_,a),(_,s),(_,p),(n,r)]=>if n≠4∨a.length≠32∨r.length≠32 then none else match cX s,cX p with
  | some s,some p=>if 1048576<max s p then none else some ⟨tJ a,s,p,tJ r⟩
  | _,_=>none
 | _=>none
def iG:Nat→List (Int × List UInt8)→Option (List Bl)
 | _,[]=>some []
 | i,(n,b)::l=>match l7 b with
  | some x=>if n≠(i:Int)+1 then none else(iG (i+1) l).map (x::·)
  | none=>none
def yH(b:List UInt8):Option (List Bl):=match pg b with
 | some l=>match iG 0 l with
  | some x=>if gL x=0 then some x else none
  | none=>none
 | none=>none
theorem HY{n:Nat}(h:n≤1048576):(uv n).length≤3:=wQ 2 n ah
theorem xZ(x:Bl)(h:bo x=true):(ek (dQ x)).length≤78:=by
 simp only[bo,decide_eq_true_eq]at h
 have h1:=HY (n:=x.size.toNat) ah
 have h2:=HY (n:=x.piece.toNat) ah
 have h3:uv 32=[32]:=by rw[fO ah];rfl
 have h4:(uv (uv x.size.toNat).length).length=1:=by rw[fO ah];rfl
 have h5:(uv (uv x.piece.toNat).length).length=1:=by rw[fO ah];rfl
 simp only[ek,dQ,lR,List.flatMap_cons,List.flatMap_nil,List.length_append,List.length_cons,List.length_nil,x.d.len,x.root.len,h3,h4,h5]
 omega
theorem vx:∀(l:List Bl) (i:Nat),i+l.length≤63→fk (i:Int) (jj i l)=true
 | [],i,_=>rfl
 | x::l,i,h=>by
  rw[List.length_cons]at h
  simp only[jj,fk,Bool.and_eq_true,decide_eq_true_eq]
  refine⟨⟨ah,ah⟩,?_⟩
  have:=vx l (i+1) ah
  rw[Int.natCast_add]at this
  exact this
theorem xX:∀(l:List Bl) (i:Nat),(∀x∈l,bo x=true)→(ek (jj i l)).length≤80*l.length
 | [],i,_=>by simp[jj,ek]
 | x::l,i,h=>by
  have h1:=xZ x (h x (List.mem_cons_self ..))
  have h2:=xX l (i+1) fun y hy=>h y (List.mem_cons_of_mem _ hy)
  have h3:(uv (ek (dQ x)).length).length=1:=by rw[fO ah];rfl
  simp only[ek]at h1 h2 h3
  simp only[jj,ek,List.flatMap_cons,List.length_append,lR,List.length_cons,h3]
  omega
theorem oJ{l:List Bl}(h:gL l=0):l.length≤16∧1≤l.length∧∀x∈l,bo x=true:=by
 unfold gL at h
 split at h
 ·cases h
 ·rename_i h1
  rw[not_or,not_or]at h1
  refine⟨ah,ah,fun x hx=>?_⟩
  have:=h1.2.2
  simp only[Bool.not_eq_true,List.any_eq_false,Bool.not_eq_true',Bool.not_eq_false]at this
  have:=this x hx
  simpa using this
theorem EC{l:List Bl}(h:gL l=0):(yD l).length≤1280:=by
 obtain⟨h1,h2,h3⟩:=oJ h
 have:=xX l 0 h3
 unfold yD;omega
theorem Hd{b:List UInt8}{l:List Bl}(h:yH b=some l):gL l=0:=by
 unfold yH at h
 split at h
 ·split at h
  ·split at h
   ·cases h;assumption
   ·cases h
  ·cases h
 ·cases h
end Go.Proofs.YtedjnjkijiddlaaGreatDoor
namespace Go.SL
open Go
def Bt(n:Nat):UInt8:=UInt8.ofNat (if n<10 then 48+n else 87+n)
def kZ(c:UInt8):Option Nat:=if 48≤c.toNat∧c.toNat≤57 then some (c.toNat-48)else if 97≤c.toNat∧c.toNat≤102 then some (c.toNat-87)else none
def lk(s:List UInt8)(i:Nat):Nat:=(kZ (s.getD i 0)).getD 0
def ve(d:Dg)(i:Nat):UInt8:=Bt (if i%2=0 then(d.at (i/2)).toNat/16 else(d.at (i/2)).toNat%16)
def gP(d:Dg):List UInt8:=(List.range 64).map (ve d)
theorem js(d:Dg):(gP d).length=64:=by simp[gP]
theorem nv(d:Dg){i:Nat}(h:i<64):(gP d)[i]?=some (ve d i):=by simp[gP,h]
def FE(s:List UInt8)(i:Nat):List UInt8:=(List.range 32).map fun j=>UInt8.ofNat (if 2*j+1<i then 16*lk s (2*j)+lk s (2*j+1)else if 2*j<i then lk s (2*j)else 0)
theorem kC(s:List UInt8)(i:Nat):(FE s i).length=32:=by simp[FE]
theorem qD(s:List UInt8)(i:Nat){j:Nat}(h:j<32):(FE s i)[j]?=some (UInt8.ofNat (if 2*j+1<i then 16*lk s (2*j)+lk s (2*j+1)else if 2*j<i then lk s (2*j)else 0)):=by simp[FE,h]
theorem M8(s:List UInt8):FE s 0=List.replicate 32 0:=by
 apply List.ext_getElem?
 intro j
 rcases Nat.lt_or_ge j 32 with h|h
 ·rw[qD s 0 h,List.getElem?_replicate,if_pos h];simp
 ·rw[List.getElem?_eq_none (by rw[kC];exact h),List.getElem?_eq_none (by simpa using h)]
theorem Q3{c:UInt8}{v:Nat}(h:kZ c=some v):v<16:=by
 unfold kZ at h
 split at h
 ·cases h;omega
 split at h
 ·cases h;omega
 ·cases h
theorem BP(s:List UInt8)(i:Nat):lk s i<16:=by
 unfold lk
 cases h:kZ (s.getD i 0)with
 | none=>simp
 | some v=>exact Q3 h
theorem Og{n:Nat}(h:n<16):kZ (Bt n)=some n:=by
 have:∀n:Nat,n<16→kZ (Bt n)=some n:=by decide
 exact this n h
theorem MA{c:UInt8}{v:Nat}(h:kZ c=some v):Bt v=c:=by
 apply UInt8.toNat.inj
 unfold kZ at h
 unfold Bt
 simp only[UInt8.toNat_ofNat']
 split at h
 ·cases h;rw[if_pos ah];omega
 split at h
 ·cases h;rw[if_neg ah];omega
 ·cases h
def jJ(s:List UInt8):Option Dg:=if s.length=64∧∀c∈s,kZ c≠none then some ⟨FE s 64,kC s 64⟩else none
theorem wx{s:List UInt8}{i:Nat}{c:UInt8}(h:s[i]?=some c):s.getD i 0=c:=by rw[List.getD_eq_getElem?_getD,h];rfl
theorem sR(d:Dg)(i:Nat):kZ (ve d i)=some (if i%2=0 then(d.at (i/2)).toNat/16 else(d.at (i/2)).toNat%16):=by
 have:=(d.at (i/2)).toNat_lt
 exact Og (by split <;> omega)
theorem Dg.OT(d:Dg){j:Nat}(h:j<32):d.bs[j]?=some (d.at j):=by
 unfold Dg.at
 rw[List.getD_eq_getElem?_getD,List.getElem?_eq_getElem (by rw[d.len];exact h)];rfl
theorem Gu(d:Dg):jJ (gP d)=some d:=by
  unfold jJ
  rw[if_pos ⟨js d,fun c hc=>by
    obtain⟨i,hi,rfl⟩:=List.mem_map.1 hc
    rw[sR];simp⟩]
  congr 1
  obtain⟨bs,hl⟩:=d
  simp only[Dg.mk.injEq]
  apply List.ext_getElem?
  intro j
  rcases Nat.lt_or_ge j 32 with h|h
  · rw[qD _ _ h,if_pos ah,(⟨bs,hl⟩:Dg).OT h]
    unfold lk
    rw[wx (nv _ (show 2*j<64 by omega)),wx (nv _ (show 2*j+1<64 by omega)),sR,sR]
    simp only[Option.getD_some,Option.some.injEq]
    rw[if_pos ah,if_neg ah,show 2*j/2=j from by omega,show(2*j+1)/2=j from by omega]
    apply UInt8.toNat.inj
    simp only[UInt8.toNat_ofNat']
    have:=((⟨bs,hl⟩:Dg).at j).toNat_lt
    omega
  · rw[List.getElem?_eq_none (by rw[kC];exact h),List.getElem?_eq_none (by rw[hl];exact h)]
theorem F3{s:List UInt8}{d:Dg}(h:jJ s=some d):s=gP d:=by
 unfold jJ at h
 split at h
 ·rename_i hs
  cases h
  apply List.ext_getElem?
  intro i
  rcases Nat.lt_or_ge i 64 with hi|hi
  ·rw[nv _ hi]
   obtain⟨c,hc⟩:∃c,s[i]?=some c:=⟨s[i],List.getElem?_eq_getElem ah⟩
   rw[hc]
   congr 1
   obtain⟨v,hv⟩:=Option.ne_none_iff_exists'.1 (hs.2 c (List.mem_of_getElem? hc))
   rw[← MA hv]
   unfold ve
   congr 1
   have PY:(Dg.at ⟨FE s 64,kC s 64⟩ (i/2))=UInt8.ofNat (16*lk s (2*(i/2))+lk s (2*(i/2)+1)):=by
    unfold Dg.at
    rw[wx (qD s 64 (show i/2<32 by omega)),if_pos ah]
   rw[PY]
   have h1:=BP s (2*(i/2))
   have h2:=BP s (2*(i/2)+1)
   have h3:lk s i=v:=by unfold lk;rw[wx hc,hv];rfl
   simp only[UInt8.toNat_ofNat']
   split
   ·rename_i he
    rw[show 2*(i/2)=i from by omega]at h1 h2 ⊢
    omega
   ·rename_i he
    rw[show 2*(i/2)+1=i from by omega]at h2 ⊢
    omega
  ·rw[List.getElem?_eq_none ah,List.getElem?_eq_none (by rw[js];exact hi)]
 ·cases h
def du(kind:List UInt8)(d:Dg):ByteArray:=strOf (kind++gP d)
def jx(kind:List UInt8)(name:ByteArray):Option Dg:=if kind.isPrefixOf name.data.toList then jJ (name.data.toList.drop kind.length)else none
theorem rS(l:List UInt8):(strOf l).data.toList=l:=by simp[strOf]
theorem qN{kind:List UInt8}{name:ByteArray}{d:Dg}:jx kind name=some d↔name=du kind d:=by
 unfold jx du
 constructor
 ·intro h
  split at h
  ·rename_i hp
   have h2:=F3 h
   obtain⟨t,ht⟩:=List.isPrefixOf_iff_prefix.1 hp
   rw[← ht,List.drop_left]at h2
   subst h2
   rw[ht,xi]
  ·cases h
 ·rintro rfl
  rw[rS,if_pos (List.isPrefixOf_iff_prefix.2 ⟨_,rfl⟩),List.drop_left,Gu]
theorem yq(kind:List UInt8)(d:Dg):jx kind (du kind d)=some d:=qN.2 rfl
theorem AT{k:List UInt8}{a b:Dg}(h:du k a=du k b):a=b:=by
 have:=yq k a
 rw[h,yq]at this
 exact(Option.some.inj this).symm
theorem yC{j k:List UInt8}{a b:Dg}(hl:j.length=k.length)(h:du j a=du k b):j=k:=by
 unfold du at h
 have:=Ae.1 h
 exact(List.append_inj this hl).1
end Go.SL
namespace Go.Proofs.YtedjnjkijiddlaaGreatDoor
open Go Go.SL
def ptr(f:Nat):Value := .pointer (some ⟨f,0,none⟩)
attribute [local irreducible] J K aD Ends ag aB aM bN aZ
theorem kT(A:HP)(v:Value)(bs:List UInt8)(hv:Vw A v bs.length (bV bs))(hlen:bs.length≤1000000000) :
  aD Tryz.prog 105 [v] [A] (fun r H=>H=[aB 5 1 r bs.length (bV bs),A]):=by
 obtain⟨a,c0,rfl⟩:=hv.shape
 cases a with
 | none =>
  have hb:bs=[]:=by
   obtain⟨a,cap,h1,h2|⟨b,o,h2,_⟩⟩:=hv
   ·simpa[bV]using h2
   ·simp only[Value.slice.injEq]at h1;rw[← h1.1]at h2;cases h2
  subst hb
  refine aD.enter Tryz.func105 ak rfl Tryz.ntmps105 zr zr ?_
  intro G F R hR
  refine go ?_
  have he:c0=c0:=rfl
  refine aj (bJ 5 1 none _) ?_
  refine ae hR Tryz.func105 rfl _ zr zr (ao.fin [0,1] 0 zr zr)
 | some a =>
  refine aD.enter Tryz.func105 ak rfl Tryz.ntmps105 zr zr ?_
  intro G F R hR
  refine go ?_
  refine al zr zr zr zr zr zr zr zr zr bz ?_
  intro b0
  refine go ?_
  refine aG (eL 5 1 b0 0 0 [] [] _ rfl (Nat.le_refl _) (by simp)) ?_
  refine aO (mm:=bs.length) (news:=bV bs) 0 1 zr zr zr zr zr zr zr zr zr zr zr zr hv (by show _=_*1;rw[bt];omega) (cR bs) ah (by show _*1≤_;omega) (fun _=>rfl) bz ?_
  intro v'
  have e1:(0:Nat)+bs.length=bs.length:=by omega
  rw[e1,List.nil_append]
  refine go ?_
  refine ae hR Tryz.func105 rfl _ zr zr (ao.fin [0,1] 0 zr zr)
theorem vY(A X:HP)(v:Value)(bs:List UInt8)(hv:Vw A v bs.length (bV bs))(hlen:bs.length≤9223372036854775807)(g:FuncId)(cap:List Value)(p:UInt8→Bool)(hf:∀x∈bs,aD Tryz.prog g (u8 x::cap) [X] (fun v H=>v = .bool (p x)∧H=[X])) :
  aD Tryz.prog 221 [v,.func (.func g) #[] cap.toArray] [A,X] (fun r H=>r = .int .i64 (kj p bs)∧H=[A,X]):=by
 obtain⟨a,c0,rfl⟩:=hv.shape
 refine aD.enter Tryz.func221 ak rfl Tryz.ntmps221 zr zr ?_
 intro G F R hR
 refine go ?_
 refine bu (fun i:Nat=>i≤bs.length∧∀y∈bs.take i,p y=false) (fun i=>bs.length-i) (fun i=>[(0,.slice a bs.length c0),(1,.func (.func g) #[] cap.toArray),(7,.int .i64 bs.length),(8,.int .i64 i)]) (fun _=>[A,X]++F) 0 ⟨by simp,by simp⟩ rfl cu (ao.refl _) ?_
 rintro i⟨hi,hb⟩ ih
 refine go ?_
 refine au zr zr ?_ ?_
 ·intro cW
  refine go ?_
  have gw:i<bs.length:=by omega
  obtain⟨b,o,gD,gb⟩:=hv.some (by rw[← List.length_pos_iff,bt];omega)
  simp only[Value.slice.injEq]at gb
  obtain⟨rfl,_,rfl⟩:=gb
  refine bK i zr zr zr zr zr zr zr zr gw ?_
  have hx:bs[i]?=some bs[i]:=by simp[gw]
  refine tW (U:=aN) 0 zr zr zr (hv.cell (oU hx)) zr zr ?_
  refine cp [1] zr zr zr zr (hf bs[i] (List.getElem_mem gw)) rfl bG ?_
  rintro _ _⟨rfl,rfl⟩
  refine go ?_
  refine fD zr zr ?_ ?_
  ·intro hp
   refine go ?_
   refine ae hR Tryz.func221 rfl _ rfl ⟨by rw[nH hx hp hb];rfl,rfl⟩ (ao.fin [1,0] 0 zr zr)
  ·intro hp
   refine go ?_
   refine aL ih (i+1) rfl ⟨ah,tM hb hx hp⟩ ah cu (ao.pick [1,0] rfl)
 ·intro fq
  refine go ?_
  have:i=bs.length:=by omega
  subst this
  refine ae hR Tryz.func221 rfl _ rfl ⟨by rw[qK (fun x hx=>hb x (by simpa using hx))];rfl,rfl⟩ (ao.fin [0,1] 0 zr zr)
def Wf(x:UInt8):Bool:=decide (97≤x.toNat∧x.toNat≤122∨48≤x.toNat∧x.toNat≤57∨x.toNat=45∨x.toNat=46)
theorem JV(X:HP)(x:UInt8):aD Tryz.prog 200 [u8 x] [X] (fun v H=>v = .bool (!Wf x)∧H=[X]):=by
 refine aD.enter Tryz.func200 ak rfl Tryz.ntmps200 zr zr ?_
 intro G F R hR
 have hx:=YI x
 repeat'(first|(with_reducible intro qh)|refine gO ?_|refine iC zr zr zr zr ?_ ?_|fail)
 all_goals refine ae hR Tryz.func200 rfl _ rfl ⟨congrArg Value.bool (by rw[Bool.eq_iff_iff];simp[Wf];omega),rfl⟩ (ao.fin [0] 0 zr zr)
theorem sF(A X:HP)(v:Value)(bs:List UInt8)(hv:Vw A v bs.length (bV bs))(hlen:bs.length≤9223372036854775807)(g:FuncId)(cap:List Value)(p:UInt8→Bool)(hf:∀x∈bs,aD Tryz.prog g (u8 x::cap) [X] (fun v H=>v = .bool (p x)∧H=[X])) :
  aD Tryz.prog 201 [v,.func (.func g) #[] cap.toArray] [A,X] (fun r H=>r = .bool (bs.any p)∧H=[A,X]):=by
 refine aD.enter Tryz.func201 ak rfl Tryz.ntmps201 zr zr ?_
 intro G F R hR
 refine go ?_
 refine cp [0,1] zr zr zr zr (vY A X v bs hv hlen g cap p hf) rfl bG ?_
 rintro _ _⟨rfl,rfl⟩
 refine go ?_
 have hb:decide (0≤kj p bs)=bs.any p:=by
  have := @nI _ p bs
  cases h:bs.any p with
  | false=>rw[h]at this;exact decide_eq_false (by have:=this.2 rfl;omega)
  | true =>
   rw[h]at this
   have h2:¬kj p bs<0:=fun h3=>by cases this.1 h3
   exact decide_eq_true ah
 refine ae hR Tryz.func201 rfl _ rfl ⟨congrArg Value.bool hb,rfl⟩ (ao.fin [0,1] 0 zr zr)
def isName(s:ByteArray):Bool:=decide (1≤s.size∧s.size≤80) && s.data.toList.all Wf
theorem Kq{s:ByteArray}(h1:1≤s.size)(h2:s.size≤80):isName s = !(s.data.toList.any fun x => !Wf x):=by
 simp[isName,h1,h2,List.all_eq_not_any_not]
theorem BO{s:ByteArray}(h1:s.size<1):isName s=false:=by simp[isName];omega
theorem D0{s:ByteArray}(h1:80<s.size):isName s=false:=by simp[isName];omega
theorem jt(A:HP)(v:Value)(l:List ByteArray)(hv:Vw A v l.length (l.map Value.string))(hlen:l.length≤1000000) :
  aD Tryz.prog 148 [v] [A] (fun r H=>r = .bool (l.all isName)∧H=[A]):=by
 obtain⟨a,c0,rfl⟩:=hv.shape
 refine aD.enter Tryz.func148 ak rfl Tryz.ntmps148 zr zr ?_
 intro G F R hR
 refine aj (ao.qg _) ?_
 refine go ?_
 refine bu (fun i:Nat=>i≤l.length∧∀y∈l.take i,isName y=true) (fun i=>l.length-i) (fun i=>[(3,.func (.func 200) #[] #[]),(6,.slice a l.length c0),(7,.int .i64 l.length),(8,.int .i64 i)]) (fun _=>emp::([A]++F)) 0 ⟨by simp,by simp⟩ rfl cu (ao.refl _) ?_
 rintro i⟨hi,hb⟩ ih
 refine go ?_
 refine au zr zr ?_ ?_
 ·intro cW
  refine go ?_
  have gw:i<l.length:=by omega
  obtain⟨b,o,gD,gb⟩:=hv.some (by rw[← List.length_pos_iff,List.length_map];omega)
  simp only[Value.slice.injEq]at gb
  obtain⟨rfl,_,rfl⟩:=gb
  refine bK i zr zr zr zr zr zr zr zr gw ?_
  obtain⟨s,hs⟩:∃s,l[i]?=some s:=⟨l[i],by simp[gw]⟩
  refine tW (U:=aN) 1 zr zr zr (hv.cell (c := .string s) (by simp[hs])) zr zr ?_
  have fg:s∈l:=List.mem_of_getElem? hs
  repeat'(first|(with_reducible intro qh)|refine gO ?_|refine iC zr zr zr zr ?_ ?_|fail)
  ·have hn:l.all isName=false:=by
    rw[← Bool.not_eq_true,List.all_eq_true];intro h
    have h1:=h s fg;rw[BO ah]at h1;cases h1
   refine ae hR Tryz.func148 rfl _ rfl ⟨congrArg Value.bool hn.symm,rfl⟩ (ao.fin [1] 1 zr zr)
  ·have hn:l.all isName=false:=by
    rw[← Bool.not_eq_true,List.all_eq_true];intro h
    have h1:=h s fg;rw[D0 ah]at h1;cases h1
   refine ae hR Tryz.func148 rfl _ rfl ⟨congrArg Value.bool hn.symm,rfl⟩ (ao.fin [1] 1 zr zr)
  ·have ld:=Kq (s:=s) ah ah
   refine LH (U:=aN) zr zr zr zr zr zr zr zr (fun _ _ _ _=>trivial) ?_
   intro bb cc
   refine go ?_
   refine cp [0,1] zr zr zr zr (sF (aZ bb s _ cc) emp _ s.data.toList (by simpa using Ga bb s _ cc cc) (by simp;omega) _ [] _ (fun x _=>JV emp x)) rfl bG ?_
   rintro _ _⟨rfl,rfl⟩
   refine go ?_
   refine fD zr zr ?_ ?_
   ·intro ht
    refine go ?_
    have hn:l.all isName=false:=by
     rw[← Bool.not_eq_true,List.all_eq_true];intro h
     have h1:=h s fg;rw[ld,ht]at h1;cases h1
    refine ae hR Tryz.func148 rfl _ rfl ⟨congrArg Value.bool hn.symm,rfl⟩ (ao.fin [2] 2 zr zr)
   ·intro hf
    refine go ?_
    refine aL ih (i+1) rfl ⟨ah,tM hb hs (by rw[ld,hf];rfl)⟩ ah cu (ao.to [1,2] 1 zr zr zr)
 ·intro fq
  refine go ?_
  have:i=l.length:=by omega
  subst this
  refine ae hR Tryz.func148 rfl _ rfl ⟨congrArg Value.bool (by rw[eq_comm,List.all_eq_true];intro x hx;exact hb x (by simpa using hx)),rfl⟩ (ao.fin [1] 1 rfl rfl)
theorem ui(A:HP)(v1 v2:Value)(old b:List UInt8)(at_:Nat)(h1:Vw A v1 old.length (bV old))(h2:Vw A v2 b.length (bV b))(hb:old.length+at_+b.length≤1000000000) :
  aD Tryz.prog 57 [v1,.int .i64 at_,v2] [A] (fun r H=>∃bl cap,r = .slice (some ⟨bl,0,none⟩) (bH old at_ b).length cap∧(bH old at_ b).length≤cap∧H=[ag bl (cl (bV (bH old at_ b)) 5),A]):=by
 obtain⟨a1,c1,rfl⟩:=h1.shape
 obtain⟨a2,c2,rfl⟩:=h2.shape
 refine aD.enter Tryz.func57 ak rfl Tryz.ntmps57 zr zr ?_
 intro G F R hR
 refine go ?_
 have hN:(max old.length (at_+b.length):Nat)=max old.length (at_+b.length):=rfl
 generalize hM:max old.length (at_+b.length)=M at *
 refine az 14 (.int .i64 (M:Int)) rfl (congrArg (Value.int .i64) ah) ?_
 refine mW (U:=aN) (p:=M) (q:=M) zr zr zr zr zr zr zr zr zr (Nat.le_refl _) ah (by show 1*M≤_;omega) bz ?_
 intro bl
 refine go ?_
 refine Pr (U:=aN) (src:=bV old) (mm:=old.length) (l':=bV (old++List.replicate (M-old.length) 0)) 0 1 zr zr zr zr zr zr zr zr h1 (by show _=_*1;rw[bt];omega) (cR old) (by show 0+_*1≤_;simp;omega) ?_ rfl gE ?_
 ·show bV (old++List.replicate (M-old.length) 0)=List.take 0 (List.replicate M (Value.int .u8 0))++List.take (min old.length M*1) (bV old)++List.drop (0+min old.length M*1) (List.replicate M (Value.int .u8 0))
  have e:min old.length M*1=old.length:=by omega
  rw[e,List.take_of_length_le (l:=bV old) (by rw[bt];omega)]
  simp[bV,u8]
 refine go ?_
 refine lF zr zr zr zr zr zr zr ah ah (.inl rfl) ?_
 intro o' N3 Yh
 have hA:at_≠M→o'=at_:=fun h=>by have:=N3 (by simpa using h);rw[this];show 0+(at_:Int).toNat*1=at_;simp
 have hB:at_=M→o'=0:=fun h=>Yh (by simpa using h)
 clear N3 Yh
 have KC:(min b.length ((M:Int).toNat-(at_:Int).toNat))*1=b.length:=by simp;omega
 refine go ?_
 refine Pr (U:=aN) (src:=bV b) (mm:=b.length) (l':=bV (bH old at_ b)) 0 1 zr zr zr zr zr zr zr zr h2 (by show _=_*1;rw[bt];omega) (cR b) ?_ ?_ rfl gE ?_
 ·show o'+(min b.length ((M:Int).toNat-(at_:Int).toNat))*1≤_
  rw[KC];simp only[bt,List.length_append,List.length_replicate]
  by_cases h:at_=M
  ·have:=hB h;omega
  ·have:=hA h;omega
 ·show bV (bH old at_ b)=List.take o' _++List.take (min b.length ((M:Int).toNat-(at_:Int).toNat)*1) (bV b)++List.drop (o'+min b.length ((M:Int).toNat-(at_:Int).toNat)*1) _
  rw[KC,List.take_of_length_le (l:=bV b) (by rw[bt];omega)]
  have Wz:at_+b.length-old.length=M-old.length:=by omega
  unfold bH
  rw[Wz]
  by_cases h:at_=M
  ·have h3:=hB h
   have h4:b=[]:=List.eq_nil_of_length_eq_zero ah
   subst h4;subst h3
   simp[bV,h]
  ·rw[hA h]
   simp[bV]
 ·have hl:(bH old at_ b).length=M:=by unfold bH;simp;omega
  rw[← hl]
  refine go ?_
  refine ae hR Tryz.func57 rfl _ rfl ⟨bl,_,rfl,Nat.le_refl _,rfl⟩ (ao.fin [0,1] 0 zr zr)
attribute [local irreducible] aP aV
def eK(l:List (ByteArray × Nat)):List (ByteArray × Value):=l.map fun x=>(x.1,ptr x.2)
structure Dk where
 room:Nat
 bm:Nat
 kA:Value
 og:Value
 nA:Value
 off:Bool
 maps:List (Nat × List (ByteArray × Value))
 dS:fF
 files:List (Nat × Value × Value)
 gk:List Nat
 wl:List (Nat × Nat × Value)
def kJ(x:Nat × List (ByteArray × Value)):HP:=aM Value.string x.1 x.2
def eV(x:Nat × Value × Value):HP:=ag x.1 (cl [x.2.1,x.2.2] 113)
def eW(l:List (Nat × Nat × Value)):List Value:=l.flatMap fun x=>[ptr x.1,.int .i64 x.2.1,x.2.2]
def Sy(bd:Nat)(D:Dk):List HP :=
  [ag bd (cl [.int .i64 D.room,.map (some D.bm),D.kA,D.og,D.nA,.bool D.off] 76),aP kJ D.maps,aV 5 D.dS,aP eV D.files,
   aB 72 1 D.kA D.gk.length (D.gk.map fun b => .map (some b)),aB 109 3 D.og D.wl.length (eW D.wl)]
def gS(bd:Nat)(D:Dk):HP:=Sep (Sy bd D)
theorem iQ(bd room bm:Nat)(kA og nA:Value)(off:Bool)(maps:List (Nat × List (ByteArray × Value)))(dS:fF)(files:List (Nat × Value × Value))(gk:List Nat)(wl:List (Nat × Nat × Value))(H:List HP) :
  ao (gS bd ⟨room,bm,kA,og,nA,off,maps,dS,files,gk,wl⟩::H)
   (ag bd (cl [.int .i64 room,.map (some bm),kA,og,nA,.bool off] 76)::aP kJ maps::aV 5 dS::aP eV files::aB 72 1 kA gk.length (gk.map fun b => .map (some b))::aB 109 3 og wl.length (eW wl)::H):=ao.cB _ _
theorem dY(bd room bm:Nat)(kA og nA:Value)(off:Bool)(maps:List (Nat × List (ByteArray × Value)))(dS:fF)(files:List (Nat × Value × Value))(gk:List Nat)(wl:List (Nat × Nat × Value))(H:List HP) :
  ao (ag bd (cl [.int .i64 room,.map (some bm),kA,og,nA,.bool off] 76)::aP kJ maps::aV 5 dS::aP eV files::aB 72 1 kA gk.length (gk.map fun b => .map (some b))::aB 109 3 og wl.length (eW wl)::H)
   (gS bd ⟨room,bm,kA,og,nA,off,maps,dS,files,gk,wl⟩::H):=ao.bP (Sy bd ⟨room,bm,kA,og,nA,off,maps,dS,files,gk,wl⟩) H
structure Rel(D:Dk)(A:Ab):Prop where
 room:D.room=A.room
 off:D.off=A.off
 names:(D.bm,eK A.names)∈D.maps
 aq:eT (fun b es=>(b,eK es)∈D.maps) D.gk A.aq
 fs:eT (fun x y=>x.1=y.1∧kz D.dS x.2.1 y.2.1∧kz D.dS x.2.2 y.2.2) D.files A.fs
 writes:eT (fun x y=>x.1=y.1∧x.2.1=y.2.1∧kz D.dS x.2.2 y.2.2) D.wl A.writes
 ef:kz D.dS D.nA A.ef
 ids:(A.fs.map (·.1)).Nodup
 known:∀st∈A.names::A.aq,∀x∈st,x.2∈A.fs.map (·.1)
 gK:∀x∈A.writes,x.1∈A.fs.map (·.1)
 nodup:∀st∈A.names::A.aq,(st.map (·.1)).Nodup
 gl:∀x∈A.fs,x.2.1.length≤1048576∧x.2.2.length≤1048576
 gW:∀x∈A.writes,x.2.1+x.2.2.length≤1048576
 fj:∀st∈A.names::A.aq,st.length≤200
 gX:A.room≤1073741824
 kf:A.ef.length≤1000000000
 full:A.aq≠[]
theorem Rel.Qc{D:Dk}{A:Ab}(h:Rel D A){v:Value}{p:List UInt8}(o:Bool)(hp:kz D.dS v p)(hl:p.length≤1000000000):Rel { D with nA:=v,off:=o } { A with ef:=p,off:=o } :=
 ⟨h.room,rfl,h.names,h.aq,h.fs,h.writes,hp,h.ids,h.known,h.gK,h.nodup,h.gl,h.gW,h.fj,h.gX,hl,h.full⟩
theorem Rel.MB{D:Dk}{A:Ab}(h:Rel D A){v:Value}{p:List UInt8}(hp:kz D.dS v p)(hl:p.length≤1000000000):Rel { D with nA:=v } { A with ef:=p } :=
 ⟨h.room,h.off,h.names,h.aq,h.fs,h.writes,hp,h.ids,h.known,h.gK,h.nodup,h.gl,h.gW,h.fj,h.gX,hl,h.full⟩
theorem xQ(bd:Nat)(D:Dk)(A:Ab)(hR:Rel D A)(may:Bool) :
  aD Tryz.prog 128 [ptr bd,.bool may] [gS bd D] (fun v H=>∃D',Rel D' (A.meet may).2∧H=[gS bd D']∧v = .int .i64 (A.meet may).1):=by
 obtain⟨room,bm,kA,og,nA,off,maps,dS,files,gk,wl⟩:=D
 obtain⟨a,cap,pT,jl⟩:=hR.ef.shape
 simp only at pT
 subst pT
 have jN:=hR.off
 simp only at jN
 refine aD.enter Tryz.func128 ak rfl Tryz.ntmps128 zr zr ?_
 intro G F R hE
 refine aj (iQ _ _ _ _ _ _ _ _ _ _ _ _ _) ?_
 cases may with
 | false =>
  refine go ?_
  refine ae hE Tryz.func128 rfl _ rfl ⟨_,hR,rfl,rfl⟩ ((ao.pick [0,1,2,3,4,5] rfl).trans (dY _ _ _ _ _ _ _ _ _ _ _ _ _))
 | true =>
  cases off with
  | true =>
   have hm:A.meet true=(7,A):=by simp[Ab.meet,← jN]
   rw[hm]at hE
   refine go ?_
   refine ae hE Tryz.func128 rfl _ rfl ⟨_,hR,rfl,rfl⟩ ((ao.pick [0,1,2,3,4,5] rfl).trans (dY _ _ _ _ _ _ _ _ _ _ _ _ _))
  | false =>
   refine go ?_
   refine fD zr zr ?_ ?_
   ·intro h0
    have nL:A.ef=[]:=List.eq_nil_of_length_eq_zero (by have:=of_decide_eq_true h0;omega)
    have hm:A.meet true=(0,A):=by simp[Ab.meet,← jN,nL]
    rw[hm]at hE
    refine go ?_
    refine ae hE Tryz.func128 rfl _ rfl ⟨_,hR,rfl,rfl⟩ ((ao.pick [0,1,2,3,4,5] rfl).trans (dY _ _ _ _ _ _ _ _ _ _ _ _ _))
   ·intro h0
    obtain⟨x,p,PH⟩:∃x p,A.ef=x::p:=by
     cases h:A.ef with
     | nil=>rw[h]at h0;simp at h0
     | cons x p=>exact⟨x,p,rfl⟩
    have hm:A.meet true=if x=1 then(6,{ A with ef:=p })else if x=2 then(7,{ A with ef:=p,off:=true })else(0,{ A with ef:=p }):=by simp[Ab.meet,← jN,PH]
    have Xk:kz dS (.slice a A.ef.length cap) (x::p):=by have:=hR.ef;rw[PH]at this;rw[PH];exact this
    have hlen:A.ef.length=p.length+1:=by rw[PH];rfl
    have zE:=hR.kf
    obtain⟨b,o,gD,gb⟩:=(Xk.view 5).some (by simp[bV])
    simp only[Value.slice.injEq]at gb
    obtain⟨rfl,_,rfl⟩:=gb
    refine go ?_
    refine bK 0 zr zr zr zr zr zr zr zr ah ?_
    refine tW (U:=aN) 2 zr zr zr (Vw.cell (cap:=cap) (n:=(x::p).length) (cs:=bV (x::p)) (by rw[← PH];exact hR.ef.view _) (c:=u8 x) (by simp[bV])) zr zr ?_
    refine go ?_
    refine lF zr zr zr zr zr zr zr ah ah (.inl rfl) ?_
    intro o' N3 _
    have hn:(A.ef.length:Int).toNat-(1:Int).toNat=p.length:=by omega
    rw[hn]
    have hp:kz dS (.slice (some ⟨b,o',none⟩) p.length (cap-(1:Int).toNat)) p:=Xk.tail o' _ (fun bT=>N3 (by
     have:0<p.length:=List.length_pos_iff.2 bT
     omega)) ah
    have hoA:A.off=false:=jN.symm
    have hR1:=hR.MB hp ah
    have Oy:=hR.Qc true hp ah
    clear Xk hp N3
    refine go ?_
    refine au zr zr ?_ ?_
    ·intro hx
     have L5:x=1:=Ml hx
     rw[hm,if_pos L5]at hE
     refine go ?_
     refine ae hE Tryz.func128 rfl _ rfl ⟨_,hR1,rfl,rfl⟩ ((ao.pick [0,1,2,3,4,5] rfl).trans (dY _ _ _ _ _ _ _ _ _ _ _ _ _))
    ·intro hx
     have L5:x≠1:=fun h=>hx (by rw[h];rfl)
     refine go ?_
     refine au zr zr ?_ ?_
     ·intro hy
      have sg:x=2:=Ml hy
      rw[hm,if_neg L5,if_pos sg]at hE
      refine go ?_
      refine ae hE Tryz.func128 rfl _ rfl ⟨_,Oy,rfl,rfl⟩ ((ao.pick [0,1,2,3,4,5] rfl).trans (dY _ _ _ _ _ _ _ _ _ _ _ _ _))
     ·intro hy
      have sg:x≠2:=fun h=>hy (by rw[h];rfl)
      rw[hm,if_neg L5,if_neg sg]at hE
      refine go ?_
      refine ae hE Tryz.func128 rfl _ rfl ⟨_,hR1,rfl,rfl⟩ ((ao.pick [0,1,2,3,4,5] rfl).trans (dY _ _ _ _ _ _ _ _ _ _ _ _ _))
theorem oW(l:List (ByteArray × Nat))(name:ByteArray):eh (eK l) name=(Ab.cG l name).map ptr:=by
 unfold eh Ab.cG eK
 induction l with
 | nil=>rfl
 | cons x l ih =>
  simp only[List.map_cons,List.find?_cons]
  by_cases h:x.1=name
  ·simp[h]
  ·simp only[h,decide_false];exact ih
theorem jM{G:cC}{w:World}{H:List HP}{maps:List (Nat × List (ByteArray × Value))}{b:Nat}{es:List (ByteArray × Value)}{i:Nat}(hs:Sat G w H)(hi:cq H i=some (aP kJ maps))(hm:(b,es)∈maps) :
  ∃o,pK Value.string o es∧w.heap[b]?=some o:=by
 obtain⟨h,hh,hA⟩:=hs.kQ hi
 obtain⟨h',s,hb⟩:=Ag hm hA
 unfold kJ aM at hb
 obtain⟨o,ho,hp⟩:=hb
 unfold ag at hp
 exact⟨o,ho,hh b o (s b o (by rw[hp b];simp))⟩
theorem vM:mh Tryz.prog 9 Value.string:=NC Tryz.underlying9
def We:Option Nat→Value
 | none => .pointer none
 | some f=>ptr f
theorem jQ(bd:Nat)(D:Dk)(A:Ab)(hR:Rel D A)(name:ByteArray)(may:Bool) :
  aD Tryz.prog 165 [ptr bd,.string name,.bool may] [gS bd D] (fun v H=>∃D',Rel D' (A.find name may).2.2∧H=[gS bd D']∧v = .tuple #[We (A.find name may).2.1,.int .i64 (A.find name may).1]):=by
 refine aD.enter Tryz.func165 ak rfl Tryz.ntmps165 zr zr ?_
 intro G F R hE
 refine go ?_
 refine cp [0] zr zr zr zr (xQ bd D A hR may) rfl bG ?_
 rintro _ _⟨D',fY,rfl,rfl⟩
 refine go ?_
 refine fD zr zr ?_ ?_
 ·intro h0
  have nL:¬(A.meet may).1=0:=by have:=of_decide_eq_true h0;omega
  have hf:A.find name may=((A.meet may).1,none,(A.meet may).2):=by simp[Ab.find,nL]
  rw[hf]at hE
  refine go ?_
  refine ae hE Tryz.func165 rfl _ rfl ⟨D',fY,rfl,rfl⟩ (ao.pick [0] rfl)
 ·intro h0
  have nL:(A.meet may).1=0:=by have:=of_decide_eq_false h0;omega
  obtain⟨room,bm,kA,og,nA,off,maps,dS,files,gk,wl⟩:=D'
  refine aj (iQ _ _ _ _ _ _ _ _ _ _ _ _ _) ?_
  refine go ?_
  refine qs (U:=aN) rfl vM zr zr zr zr zr zr zr (fun w hw=>jM (i:=1) hw rfl fY.names) ?_
  rw[oW]
  cases hl:Ab.cG (A.meet may).2.names name with
  | none =>
   have hf:A.find name may=(4,none,(A.meet may).2):=by simp[Ab.find,nL,Ab.look,hl]
   rw[hf]at hE
   refine go ?_
   refine ae hE Tryz.func165 rfl _ rfl ⟨_,fY,rfl,rfl⟩ ((ao.pick [0,1,2,3,4,5] rfl).trans (dY _ _ _ _ _ _ _ _ _ _ _ _ _))
  | some fl =>
   have hf:A.find name may=(0,some fl,(A.meet may).2):=by simp[Ab.find,nL,Ab.look,hl]
   rw[hf]at hE
   refine go ?_
   refine ae hE Tryz.func165 rfl _ rfl ⟨_,fY,rfl,rfl⟩ ((ao.pick [0,1,2,3,4,5] rfl).trans (dY _ _ _ _ _ _ _ _ _ _ _ _ _))
theorem sn{α:Type}{l:List (Nat × α)}(hn:(l.map (·.1)).Nodup){i f:Nat}{x:α}(hi:l[i]?=some (f,x)):(l.find? fun x=>decide (x.1=f))=some (f,x):=by
 induction l generalizing i with
 | nil=>simp at hi
 | cons y l ih =>
  simp only[List.map_cons,List.nodup_cons]at hn
  cases i with
  | zero=>simp at hi;subst hi;simp
  | succ i =>
   simp at hi
   have bT:y.1≠f:=fun e=>hn.1 (List.mem_map.2 ⟨_,List.mem_of_getElem? hi,e.symm⟩)
   simp only[List.find?_cons,bT,decide_false]
   exact ih hn.2 hi
theorem Rel.file{D:Dk}{A:Ab}(h:Rel D A){f:Nat}(hf:f∈A.fs.map (·.1)):∃(i:Nat) (v1 v2:Value),D.files[i]?=some (f,v1,v2)∧A.fs[i]?=some (f,A.now f,A.sure f)∧kz D.dS v1 (A.now f)∧kz D.dS v2 (A.sure f):=by
 obtain⟨⟨f',n,s⟩,hm,rfl⟩:=List.mem_map.1 hf
 obtain⟨i,hi⟩:=List.getElem?_of_mem hm
 obtain⟨⟨f2,v1,v2⟩,hx,h1,h2,h3⟩:=h.fs.right hi
 simp only at h1 h2 h3
 subst h1
 have lW:A.file f2=(n,s):=by unfold Ab.file;rw[sn h.ids hi];rfl
 refine⟨i,v1,v2,hx,?_,?_,?_⟩
 ·rw[hi];simp[Ab.now,Ab.sure,lW]
 ·simpa[Ab.now,lW]using h2
 ·simpa[Ab.sure,lW]using h3
theorem Rel.small{D:Dk}{A:Ab}(h:Rel D A)(f:Nat):(A.now f).length≤1048576∧(A.sure f).length≤1048576:=by
 unfold Ab.now Ab.sure Ab.file
 cases hf:A.fs.find? fun x=>decide (x.1=f)with
 | none=>simp
 | some x=>simpa using h.gl x (List.mem_of_find?_eq_some hf)
theorem yB{G:cC}{w:World}{H:List HP}{files:List (Nat × Value × Value)}{f:Nat}{v1 v2:Value}{i j:Nat}(hs:Sat G w H)(hi:cq H i=some (aP eV files))(hm:files[j]?=some (f,v1,v2)) :
  w.heap[f]?=some (cl [v1,v2] 113):=by
 obtain⟨h,hh,hA⟩:=hs.kQ hi
 obtain⟨h',s,hb⟩:=Ag (List.mem_of_getElem? hm) hA
 unfold eV ag at hb
 exact hh f _ (s f _ (by rw[hb f];simp))
theorem tF{G:cC}{w:World}{H:List HP}{files:List (Nat × Value × Value)}{f:Nat}{v1 v2:Value}{i j:Nat}(hs:Sat G w H)(hi:cq H i=some (aP eV files))(hm:files[j]?=some (f,v1,v2)) :
  w.cell? ⟨f,0,none⟩=some v1:=by rw[dy (yB hs hi hm)];rfl
theorem oF{l:List (ByteArray × Nat)}{k:ByteArray}{f:Nat}(hn:(l.map (·.1)).Nodup)(h:(k,f)∈l):Ab.cG l k=some f:=by
  obtain⟨i,hi⟩:=List.getElem?_of_mem h
  have:eh (l.map fun x=>(x.1,Value.int .i64 x.2)) k=some (.int .i64 f):=A5 (i:=i) (by simp[hi]) (fun j hj he=>by
    rw[List.map_map]at he
    have h1:(l.map (·.1))[j]?=(l.map (·.1))[i]? := by
      have e:(List.map ((fun x=>x.1) ∘ fun x=>(x.1,Value.int IntKind.i64 (x.2:Nat))) l)=l.map (·.1):=rfl
      rw[e]at he
      rw[he];simp[hi]
    have:=(List.getElem?_inj (by
      rcases Nat.lt_or_ge j (l.map (·.1)).length with h|h
      · exact h
      · rw[List.getElem?_eq_none h]at h1;simp[hi]at h1) hn).1 h1
    omega)
  unfold eh at this
  unfold Ab.cG
  rw[List.find?_map]at this
  simp only[Option.map_map]at this
  cases hx:l.find? fun x=>decide (x.1=k)with
  | none => have e : (l.find? ((fun x => decide (x.1 = k)) ∘ fun x => (x.1, Value.int IntKind.i64 (x.2 : Nat)))) = none := hx
            rw[e]at this;cases this
  | some y => 
    have e:(l.find? ((fun x=>decide (x.1=k)) ∘ fun x=>(x.1,Value.int IntKind.i64 (x.2:Nat))))=some y:=hx
    rw[e]at this
    have h2:((y.2:Nat):Int)=f:=by simpa using this
    rw[Option.map_some,show y.2=f by omega]
theorem pM{l:List (ByteArray × Nat)}{k:ByteArray}{f:Nat}(h:Ab.cG l k=some f):(k,f)∈l:=by
 unfold Ab.cG at h
 cases hx:l.find? fun x=>decide (x.1=k)with
 | none=>rw[hx]at h;cases h
 | some y =>
  rw[hx]at h
  have h1:=List.find?_some hx
  simp only[decide_eq_true_eq]at h1
  simp only[Option.map_some,Option.some.injEq]at h
  have:=List.mem_of_find?_eq_some hx
  rwa[← h1,← h]
def lenOf(A:Ab)(k:ByteArray):Nat:=(A.look k).elim 0 fun f=>(A.now f).length
def sumOf(A:Ab)(l:List ByteArray):Nat:=(l.map (lenOf A)).sum
theorem C2{A:Ab}(h:∀f,(A.now f).length≤1048576)(l:List ByteArray):sumOf A l≤l.length*1048576:=by
 induction l with
 | nil=>simp[sumOf]
 | cons k l ih =>
  have h1:lenOf A k≤1048576:=by unfold lenOf;cases A.look k with|none=>simp|some f=>exact h f
  simp only[sumOf,List.map_cons,List.sum_cons,List.length_cons]at ih ⊢
  omega
theorem Gy{α:Type}[DecidableEq α]{l r:List α}(h1:l.Nodup)(h2:r.Nodup)(h:∀x,x∈l↔x∈r):l.Perm r:=(List.perm_ext_iff_of_nodup h1 h2).2 h
theorem uF{α:Type}[DecidableEq α]{l r:List α}(h1:l.Nodup)(h:∀x∈l,x∈r):l.length≤r.length:=by
 induction l generalizing r with
 | nil=>simp
 | cons x l ih =>
  simp only[List.nodup_cons]at h1
  have:=ih (r:=r.erase x) h1.2 (fun y hy=>(List.mem_erase_of_ne (by rintro rfl;exact h1.1 hy)).2 (h y (by simp[hy])))
  rw[List.length_erase_of_mem (h x (by simp))]at this
  have h3:0<r.length:=List.length_pos_of_mem (h x (by simp))
  simp only[List.length_cons]
  omega
theorem xh{A:Ab}(hn:(A.names.map (·.1)).Nodup):sumOf A (A.names.map (·.1))=A.used:=by
 unfold sumOf Ab.used
 rw[List.map_map]
 congr 1
 apply List.map_congr_left
 rintro⟨k,f⟩ hx
 have:A.look k=some f:=oF hn hx
 simp[lenOf,this]
theorem OZ(bd:Nat)(D:Dk)(A:Ab)(hR:Rel D A) :
  aD Tryz.prog 166 [ptr bd] [gS bd D] (fun v H=>H=[gS bd D]∧v = .int .i64 A.used):=by
 obtain⟨room,bm,kA,og,nA,off,maps,dS,files,gk,wl⟩:=D
 refine aD.enter Tryz.func166 ak rfl Tryz.ntmps166 zr zr ?_
 intro G F R hE
 refine aj (iQ _ _ _ _ _ _ _ _ _ _ _ _ _) ?_
 refine go ?_
 obtain⟨j,hj⟩:=List.getElem?_of_mem hR.names
 simp only at hj
 refine aG (ao.pick [1] rfl) ?_
 refine aG (gU kJ hj _) ?_
 refine wG (kv:=Value.string) (es:=eK A.names) (U:=aN) 0 zr zr zr zr zr (fun _=>rfl) bz ?_
 intro it
 refine go ?_
 have j4:=hR.nodup _ (List.mem_cons_self ..)
 have AI:(eK A.names).map (·.1)=A.names.map (·.1):=by simp[eK,Function.comp_def]
 refine bu (fun dn:List ByteArray=>dn.Nodup∧∀x∈dn,x∈A.names.map (·.1)) (fun dn=>A.names.length-dn.length)
  (fun dn=>[(3,.int .i64 (sumOf A dn)),(10,.pointer (some ⟨it,0,none⟩))])
  (fun dn=>bN Value.string bm it (eK A.names) dn::aP kJ (maps.eraseIdx j)::ag bd (cl [.int .i64 room,.map (some bm),kA,og,nA,.bool off] 76)::aV 5 dS::aP eV files::aB 72 1 kA gk.length (gk.map fun b => .map (some b))::aB 109 3 og wl.length (eW wl)::F)
  [] ⟨List.nodup_nil,by simp⟩ rfl cu (ao.refl _) ?_
 rintro dn⟨ym,er⟩ ih
 have hlen:=uF ym er
 have hb:=C2 (fun f=>(hR.small f).1) dn
 have hN:=hR.fj _ (List.mem_cons_self ..)
 rw[List.length_map]at hlen
 refine go ?_
 refine Cu (kv:=Value.string) (es:=eK A.names) 0 rfl vM.inj zr zr (fun _=>rfl) gE bz ?_ ?_
 ·intro eZ
  refine go ?_
  have hp:sumOf A dn=A.used:=by
   rw[← xh j4]
   refine List.Perm.sum_nat ((Gy ym j4 fun x=>⟨er x,fun hx=>?_⟩).map _)
   rw[← AI]at hx
   obtain⟨y,hy,rfl⟩:=List.mem_map.1 hx
   exact eZ y hy
  refine aj ((ao.head (B:=[kJ (bm,eK A.names)]) (fun h hs=>by obtain⟨h',s,hm⟩:=qF h hs;exact⟨h',s,fU hm⟩)).trans (pz kJ hj _)) ?_
  rw[hp]
  refine ae hE Tryz.func166 rfl _ rfl ⟨rfl,rfl⟩ ((ao.pick [1,0] rfl).trans ((ao.pick [0,1,2,3,4,5] rfl).trans (dY _ _ _ _ _ _ _ _ _ _ _ _ _)))
 ·intro key v fg vP
  obtain⟨⟨k',f⟩,hx,NM⟩:=List.mem_map.1 fg
  simp only[Prod.mk.injEq]at NM
  obtain⟨rfl,rfl⟩:=NM
  refine go ?_
  refine wK (kv:=Value.string) (es:=eK A.names) 0 rfl vM.inj zr zr fg ?_
  refine go ?_
  obtain⟨i,v1,v2,hi,nc,lS,uh⟩:=hR.file (hR.known _ (List.mem_cons_self ..) _ hx)
  obtain⟨a,cap,rfl,jl⟩:=lS.shape
  refine wJ (U:=aN) zr zr (fun w hw=>tF (i:=4) hw rfl hi) zr zr ?_
  have od:A.look k'=some f:=oF j4 hx
  have hl:lenOf A k'=(A.now f).length:=by simp[lenOf,od]
  have zE:=(hR.small f).1
  have QX:k'∈A.names.map (·.1):=List.mem_map.2 ⟨_,hx,rfl⟩
  have Oi:(k'::dn).Nodup:=List.nodup_cons.2 ⟨vP,ym⟩
  have qZ:∀x∈k'::dn,x∈A.names.map (·.1):=fun x hx=>by
   rcases List.mem_cons.1 hx with rfl|h
   ·exact QX
   ·exact er x h
  have ye:=uF Oi qZ
  rw[List.length_map,List.length_cons]at ye
  refine go ?_
  refine bB 3 (.int .i64 (sumOf A (k'::dn))) rfl (congrArg (Value.int .i64) (by simp only[sumOf,List.map_cons,List.sum_cons,hl];omega)) ?_
  refine aL ih (k'::dn) rfl ⟨Oi,qZ⟩ (by show _-(_+1)<_;omega) cu (ao.refl _)
end Go.Proofs.YtedjnjkijiddlaaGreatDoor
