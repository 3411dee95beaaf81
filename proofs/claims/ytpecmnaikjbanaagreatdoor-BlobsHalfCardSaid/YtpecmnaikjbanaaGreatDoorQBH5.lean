/- Texts of one claim, joined: Tab, Tl0, Jb, Tl, Te0, Ha, Hb, Pt, Lb. -/
import Derived.Test.YtpecmnaikjbanaaGreatDoorQBH3
import Derived.Test.YtpecmnaikjbanaaGreatDoorQBH4
import Derived.Test.YtpecmnaikjbanaaGreatDoorProg
/- The table of types of this seat's translation, as a tree (written by program: mktab.py), and that the program's own table says the same. -/
namespace Go.Proofs.YtpecmnaikjbanaaGreatDoor
open Go.SL
theorem tab1 : Tryz.prog.underlying 1 = some Tryz.t1.desc ∧ Tryz.prog.info? 1 = some Tryz.t1 := ⟨by kernel_rfl, by kernel_rfl⟩
theorem tab2 : Tryz.prog.underlying 2 = some Tryz.t2.desc ∧ Tryz.prog.info? 2 = some Tryz.t2 := ⟨by kernel_rfl, by kernel_rfl⟩
theorem tab3 : Tryz.prog.underlying 3 = some Tryz.t3.desc ∧ Tryz.prog.info? 3 = some Tryz.t3 := ⟨by kernel_rfl, by kernel_rfl⟩
theorem tab4 : Tryz.prog.underlying 4 = some Tryz.t4.desc ∧ Tryz.prog.info? 4 = some Tryz.t4 := ⟨by kernel_rfl, by kernel_rfl⟩
theorem tab5 : Tryz.prog.underlying 5 = some Tryz.t5.desc ∧ Tryz.prog.info? 5 = some Tryz.t5 := ⟨by kernel_rfl, by kernel_rfl⟩
theorem tab6 : Tryz.prog.underlying 6 = some Tryz.t5.desc ∧ Tryz.prog.info? 6 = some Tryz.t6 := ⟨by kernel_rfl, by kernel_rfl⟩
theorem tab7 : Tryz.prog.underlying 7 = some Tryz.t7.desc ∧ Tryz.prog.info? 7 = some Tryz.t7 := ⟨by kernel_rfl, by kernel_rfl⟩
theorem tab8 : Tryz.prog.underlying 8 = some Tryz.t7.desc ∧ Tryz.prog.info? 8 = some Tryz.t8 := ⟨by kernel_rfl, by kernel_rfl⟩
theorem tab9 : Tryz.prog.underlying 9 = some Tryz.t9.desc ∧ Tryz.prog.info? 9 = some Tryz.t9 := ⟨by kernel_rfl, by kernel_rfl⟩
theorem tab10 : Tryz.prog.underlying 10 = some Tryz.t9.desc ∧ Tryz.prog.info? 10 = some Tryz.t10 := ⟨by kernel_rfl, by kernel_rfl⟩
theorem tab11 : Tryz.prog.underlying 11 = some Tryz.t9.desc ∧ Tryz.prog.info? 11 = some Tryz.t11 := ⟨by kernel_rfl, by kernel_rfl⟩
theorem tab12 : Tryz.prog.underlying 12 = some Tryz.t12.desc ∧ Tryz.prog.info? 12 = some Tryz.t12 := ⟨by kernel_rfl, by kernel_rfl⟩
theorem tab13 : Tryz.prog.underlying 13 = some Tryz.t13.desc ∧ Tryz.prog.info? 13 = some Tryz.t13 := ⟨by kernel_rfl, by kernel_rfl⟩
theorem tab14 : Tryz.prog.underlying 14 = some Tryz.t13.desc ∧ Tryz.prog.info? 14 = some Tryz.t14 := ⟨by kernel_rfl, by kernel_rfl⟩
theorem tab15 : Tryz.prog.underlying 15 = some Tryz.t15.desc ∧ Tryz.prog.info? 15 = some Tryz.t15 := ⟨by kernel_rfl, by kernel_rfl⟩
theorem tab16 : Tryz.prog.underlying 16 = some Tryz.t16.desc ∧ Tryz.prog.info? 16 = some Tryz.t16 := ⟨by kernel_rfl, by kernel_rfl⟩
theorem tab17 : Tryz.prog.underlying 17 = some Tryz.t17.desc ∧ Tryz.prog.info? 17 = some Tryz.t17 := ⟨by kernel_rfl, by kernel_rfl⟩
theorem tab18 : Tryz.prog.underlying 18 = some Tryz.t18.desc ∧ Tryz.prog.info? 18 = some Tryz.t18 := ⟨by kernel_rfl, by kernel_rfl⟩
theorem tab19 : Tryz.prog.underlying 19 = some Tryz.t18.desc ∧ Tryz.prog.info? 19 = some Tryz.t19 := ⟨by kernel_rfl, by kernel_rfl⟩
theorem tab20 : Tryz.prog.underlying 20 = some Tryz.t20.desc ∧ Tryz.prog.info? 20 = some Tryz.t20 := ⟨by kernel_rfl, by kernel_rfl⟩
theorem tab21 : Tryz.prog.underlying 21 = some Tryz.t21.desc ∧ Tryz.prog.info? 21 = some Tryz.t21 := ⟨by kernel_rfl, by kernel_rfl⟩
theorem tab22 : Tryz.prog.underlying 22 = some Tryz.t22.desc ∧ Tryz.prog.info? 22 = some Tryz.t22 := ⟨by kernel_rfl, by kernel_rfl⟩
theorem tab23 : Tryz.prog.underlying 23 = some Tryz.t23.desc ∧ Tryz.prog.info? 23 = some Tryz.t23 := ⟨by kernel_rfl, by kernel_rfl⟩
theorem tab24 : Tryz.prog.underlying 24 = some Tryz.t24.desc ∧ Tryz.prog.info? 24 = some Tryz.t24 := ⟨by kernel_rfl, by kernel_rfl⟩
theorem tab25 : Tryz.prog.underlying 25 = some Tryz.t25.desc ∧ Tryz.prog.info? 25 = some Tryz.t25 := ⟨by kernel_rfl, by kernel_rfl⟩
theorem tab26 : Tryz.prog.underlying 26 = some Tryz.t3.desc ∧ Tryz.prog.info? 26 = some Tryz.t26 := ⟨by kernel_rfl, by kernel_rfl⟩
theorem tab28 : Tryz.prog.underlying 28 = some Tryz.t28.desc ∧ Tryz.prog.info? 28 = some Tryz.t28 := ⟨by kernel_rfl, by kernel_rfl⟩
theorem tab29 : Tryz.prog.underlying 29 = some Tryz.t29.desc ∧ Tryz.prog.info? 29 = some Tryz.t29 := ⟨by kernel_rfl, by kernel_rfl⟩
theorem tab30 : Tryz.prog.underlying 30 = some Tryz.t29.desc ∧ Tryz.prog.info? 30 = some Tryz.t30 := ⟨by kernel_rfl, by kernel_rfl⟩
theorem tab31 : Tryz.prog.underlying 31 = some Tryz.t31.desc ∧ Tryz.prog.info? 31 = some Tryz.t31 := ⟨by kernel_rfl, by kernel_rfl⟩
theorem tab32 : Tryz.prog.underlying 32 = some Tryz.t31.desc ∧ Tryz.prog.info? 32 = some Tryz.t32 := ⟨by kernel_rfl, by kernel_rfl⟩
theorem tab34 : Tryz.prog.underlying 34 = some Tryz.t34.desc ∧ Tryz.prog.info? 34 = some Tryz.t34 := ⟨by kernel_rfl, by kernel_rfl⟩
theorem tab35 : Tryz.prog.underlying 35 = some Tryz.t35.desc ∧ Tryz.prog.info? 35 = some Tryz.t35 := ⟨by kernel_rfl, by kernel_rfl⟩
theorem tab37 : Tryz.prog.underlying 37 = some Tryz.t37.desc ∧ Tryz.prog.info? 37 = some Tryz.t37 := ⟨by kernel_rfl, by kernel_rfl⟩
theorem tab38 : Tryz.prog.underlying 38 = some Tryz.t38.desc ∧ Tryz.prog.info? 38 = some Tryz.t38 := ⟨by kernel_rfl, by kernel_rfl⟩
theorem tab39 : Tryz.prog.underlying 39 = some Tryz.t39.desc ∧ Tryz.prog.info? 39 = some Tryz.t39 := ⟨by kernel_rfl, by kernel_rfl⟩
theorem tab40 : Tryz.prog.underlying 40 = some Tryz.t40.desc ∧ Tryz.prog.info? 40 = some Tryz.t40 := ⟨by kernel_rfl, by kernel_rfl⟩
theorem tab41 : Tryz.prog.underlying 41 = some Tryz.t41.desc ∧ Tryz.prog.info? 41 = some Tryz.t41 := ⟨by kernel_rfl, by kernel_rfl⟩
theorem tab43 : Tryz.prog.underlying 43 = some Tryz.t43.desc ∧ Tryz.prog.info? 43 = some Tryz.t43 := ⟨by kernel_rfl, by kernel_rfl⟩
theorem tab44 : Tryz.prog.underlying 44 = some Tryz.t44.desc ∧ Tryz.prog.info? 44 = some Tryz.t44 := ⟨by kernel_rfl, by kernel_rfl⟩
theorem tab45 : Tryz.prog.underlying 45 = some Tryz.t45.desc ∧ Tryz.prog.info? 45 = some Tryz.t45 := ⟨by kernel_rfl, by kernel_rfl⟩
theorem tab46 : Tryz.prog.underlying 46 = some Tryz.t46.desc ∧ Tryz.prog.info? 46 = some Tryz.t46 := ⟨by kernel_rfl, by kernel_rfl⟩
theorem tab47 : Tryz.prog.underlying 47 = some Tryz.t47.desc ∧ Tryz.prog.info? 47 = some Tryz.t47 := ⟨by kernel_rfl, by kernel_rfl⟩
theorem tab48 : Tryz.prog.underlying 48 = some Tryz.t48.desc ∧ Tryz.prog.info? 48 = some Tryz.t48 := ⟨by kernel_rfl, by kernel_rfl⟩
theorem tab49 : Tryz.prog.underlying 49 = some Tryz.t49.desc ∧ Tryz.prog.info? 49 = some Tryz.t49 := ⟨by kernel_rfl, by kernel_rfl⟩
theorem tab50 : Tryz.prog.underlying 50 = some Tryz.t50.desc ∧ Tryz.prog.info? 50 = some Tryz.t50 := ⟨by kernel_rfl, by kernel_rfl⟩
theorem tab51 : Tryz.prog.underlying 51 = some Tryz.t51.desc ∧ Tryz.prog.info? 51 = some Tryz.t51 := ⟨by kernel_rfl, by kernel_rfl⟩
theorem tab52 : Tryz.prog.underlying 52 = some Tryz.t51.desc ∧ Tryz.prog.info? 52 = some Tryz.t52 := ⟨by kernel_rfl, by kernel_rfl⟩
theorem tab53 : Tryz.prog.underlying 53 = some Tryz.t53.desc ∧ Tryz.prog.info? 53 = some Tryz.t53 := ⟨by kernel_rfl, by kernel_rfl⟩
theorem tab54 : Tryz.prog.underlying 54 = some Tryz.t54.desc ∧ Tryz.prog.info? 54 = some Tryz.t54 := ⟨by kernel_rfl, by kernel_rfl⟩
theorem tab55 : Tryz.prog.underlying 55 = some Tryz.t54.desc ∧ Tryz.prog.info? 55 = some Tryz.t55 := ⟨by kernel_rfl, by kernel_rfl⟩
theorem tab56 : Tryz.prog.underlying 56 = some Tryz.t56.desc ∧ Tryz.prog.info? 56 = some Tryz.t56 := ⟨by kernel_rfl, by kernel_rfl⟩
theorem tab57 : Tryz.prog.underlying 57 = some Tryz.t57.desc ∧ Tryz.prog.info? 57 = some Tryz.t57 := ⟨by kernel_rfl, by kernel_rfl⟩
theorem tab59 : Tryz.prog.underlying 59 = some Tryz.t59.desc ∧ Tryz.prog.info? 59 = some Tryz.t59 := ⟨by kernel_rfl, by kernel_rfl⟩
theorem tab60 : Tryz.prog.underlying 60 = some Tryz.t60.desc ∧ Tryz.prog.info? 60 = some Tryz.t60 := ⟨by kernel_rfl, by kernel_rfl⟩
theorem tab61 : Tryz.prog.underlying 61 = some Tryz.t61.desc ∧ Tryz.prog.info? 61 = some Tryz.t61 := ⟨by kernel_rfl, by kernel_rfl⟩
theorem tab62 : Tryz.prog.underlying 62 = some Tryz.t62.desc ∧ Tryz.prog.info? 62 = some Tryz.t62 := ⟨by kernel_rfl, by kernel_rfl⟩
theorem tab64 : Tryz.prog.underlying 64 = some Tryz.t64.desc ∧ Tryz.prog.info? 64 = some Tryz.t64 := ⟨by kernel_rfl, by kernel_rfl⟩
theorem tab65 : Tryz.prog.underlying 65 = some Tryz.t65.desc ∧ Tryz.prog.info? 65 = some Tryz.t65 := ⟨by kernel_rfl, by kernel_rfl⟩
theorem tab66 : Tryz.prog.underlying 66 = some Tryz.t66.desc ∧ Tryz.prog.info? 66 = some Tryz.t66 := ⟨by kernel_rfl, by kernel_rfl⟩
theorem tab67 : Tryz.prog.underlying 67 = some Tryz.t67.desc ∧ Tryz.prog.info? 67 = some Tryz.t67 := ⟨by kernel_rfl, by kernel_rfl⟩
theorem tab68 : Tryz.prog.underlying 68 = some Tryz.t68.desc ∧ Tryz.prog.info? 68 = some Tryz.t68 := ⟨by kernel_rfl, by kernel_rfl⟩
theorem tab69 : Tryz.prog.underlying 69 = some Tryz.t69.desc ∧ Tryz.prog.info? 69 = some Tryz.t69 := ⟨by kernel_rfl, by kernel_rfl⟩
theorem tab70 : Tryz.prog.underlying 70 = some Tryz.t70.desc ∧ Tryz.prog.info? 70 = some Tryz.t70 := ⟨by kernel_rfl, by kernel_rfl⟩
theorem tab71 : Tryz.prog.underlying 71 = some Tryz.t71.desc ∧ Tryz.prog.info? 71 = some Tryz.t71 := ⟨by kernel_rfl, by kernel_rfl⟩
theorem tab73 : Tryz.prog.underlying 73 = some Tryz.t73.desc ∧ Tryz.prog.info? 73 = some Tryz.t73 := ⟨by kernel_rfl, by kernel_rfl⟩
theorem tab74 : Tryz.prog.underlying 74 = some Tryz.t74.desc ∧ Tryz.prog.info? 74 = some Tryz.t74 := ⟨by kernel_rfl, by kernel_rfl⟩
theorem tab75 : Tryz.prog.underlying 75 = some Tryz.t75.desc ∧ Tryz.prog.info? 75 = some Tryz.t75 := ⟨by kernel_rfl, by kernel_rfl⟩
theorem tab76 : Tryz.prog.underlying 76 = some Tryz.t76.desc ∧ Tryz.prog.info? 76 = some Tryz.t76 := ⟨by kernel_rfl, by kernel_rfl⟩
theorem tab77 : Tryz.prog.underlying 77 = some Tryz.t77.desc ∧ Tryz.prog.info? 77 = some Tryz.t77 := ⟨by kernel_rfl, by kernel_rfl⟩
theorem tab78 : Tryz.prog.underlying 78 = some Tryz.t78.desc ∧ Tryz.prog.info? 78 = some Tryz.t78 := ⟨by kernel_rfl, by kernel_rfl⟩
theorem tab79 : Tryz.prog.underlying 79 = some Tryz.t79.desc ∧ Tryz.prog.info? 79 = some Tryz.t79 := ⟨by kernel_rfl, by kernel_rfl⟩
theorem tab80 : Tryz.prog.underlying 80 = some Tryz.t80.desc ∧ Tryz.prog.info? 80 = some Tryz.t80 := ⟨by kernel_rfl, by kernel_rfl⟩
theorem tab81 : Tryz.prog.underlying 81 = some Tryz.t80.desc ∧ Tryz.prog.info? 81 = some Tryz.t81 := ⟨by kernel_rfl, by kernel_rfl⟩
theorem tab82 : Tryz.prog.underlying 82 = some Tryz.t82.desc ∧ Tryz.prog.info? 82 = some Tryz.t82 := ⟨by kernel_rfl, by kernel_rfl⟩
theorem tab83 : Tryz.prog.underlying 83 = some Tryz.t83.desc ∧ Tryz.prog.info? 83 = some Tryz.t83 := ⟨by kernel_rfl, by kernel_rfl⟩
theorem tab84 : Tryz.prog.underlying 84 = some Tryz.t84.desc ∧ Tryz.prog.info? 84 = some Tryz.t84 := ⟨by kernel_rfl, by kernel_rfl⟩
theorem tab85 : Tryz.prog.underlying 85 = some Tryz.t84.desc ∧ Tryz.prog.info? 85 = some Tryz.t85 := ⟨by kernel_rfl, by kernel_rfl⟩
theorem tab87 : Tryz.prog.underlying 87 = some Tryz.t87.desc ∧ Tryz.prog.info? 87 = some Tryz.t87 := ⟨by kernel_rfl, by kernel_rfl⟩
theorem tab88 : Tryz.prog.underlying 88 = some Tryz.t88.desc ∧ Tryz.prog.info? 88 = some Tryz.t88 := ⟨by kernel_rfl, by kernel_rfl⟩
theorem tab89 : Tryz.prog.underlying 89 = some Tryz.t89.desc ∧ Tryz.prog.info? 89 = some Tryz.t89 := ⟨by kernel_rfl, by kernel_rfl⟩
theorem tab90 : Tryz.prog.underlying 90 = some Tryz.t90.desc ∧ Tryz.prog.info? 90 = some Tryz.t90 := ⟨by kernel_rfl, by kernel_rfl⟩
theorem tab91 : Tryz.prog.underlying 91 = some Tryz.t91.desc ∧ Tryz.prog.info? 91 = some Tryz.t91 := ⟨by kernel_rfl, by kernel_rfl⟩
theorem tab92 : Tryz.prog.underlying 92 = some Tryz.t91.desc ∧ Tryz.prog.info? 92 = some Tryz.t92 := ⟨by kernel_rfl, by kernel_rfl⟩
theorem tab93 : Tryz.prog.underlying 93 = some Tryz.t93.desc ∧ Tryz.prog.info? 93 = some Tryz.t93 := ⟨by kernel_rfl, by kernel_rfl⟩
theorem tab94 : Tryz.prog.underlying 94 = some Tryz.t94.desc ∧ Tryz.prog.info? 94 = some Tryz.t94 := ⟨by kernel_rfl, by kernel_rfl⟩
theorem tab95 : Tryz.prog.underlying 95 = some Tryz.t95.desc ∧ Tryz.prog.info? 95 = some Tryz.t95 := ⟨by kernel_rfl, by kernel_rfl⟩
theorem tab97 : Tryz.prog.underlying 97 = some Tryz.t97.desc ∧ Tryz.prog.info? 97 = some Tryz.t97 := ⟨by kernel_rfl, by kernel_rfl⟩
theorem tab98 : Tryz.prog.underlying 98 = some Tryz.t98.desc ∧ Tryz.prog.info? 98 = some Tryz.t98 := ⟨by kernel_rfl, by kernel_rfl⟩
theorem tab99 : Tryz.prog.underlying 99 = some Tryz.t99.desc ∧ Tryz.prog.info? 99 = some Tryz.t99 := ⟨by kernel_rfl, by kernel_rfl⟩
theorem tab100 : Tryz.prog.underlying 100 = some Tryz.t100.desc ∧ Tryz.prog.info? 100 = some Tryz.t100 := ⟨by kernel_rfl, by kernel_rfl⟩
theorem tab101 : Tryz.prog.underlying 101 = some Tryz.t101.desc ∧ Tryz.prog.info? 101 = some Tryz.t101 := ⟨by kernel_rfl, by kernel_rfl⟩
theorem tab103 : Tryz.prog.underlying 103 = some Tryz.t103.desc ∧ Tryz.prog.info? 103 = some Tryz.t103 := ⟨by kernel_rfl, by kernel_rfl⟩
theorem tab104 : Tryz.prog.underlying 104 = some Tryz.t104.desc ∧ Tryz.prog.info? 104 = some Tryz.t104 := ⟨by kernel_rfl, by kernel_rfl⟩
theorem tab105 : Tryz.prog.underlying 105 = some Tryz.t105.desc ∧ Tryz.prog.info? 105 = some Tryz.t105 := ⟨by kernel_rfl, by kernel_rfl⟩
theorem tab107 : Tryz.prog.underlying 107 = some Tryz.t107.desc ∧ Tryz.prog.info? 107 = some Tryz.t107 := ⟨by kernel_rfl, by kernel_rfl⟩
theorem tab109 : Tryz.prog.underlying 109 = some Tryz.t109.desc ∧ Tryz.prog.info? 109 = some Tryz.t109 := ⟨by kernel_rfl, by kernel_rfl⟩
theorem tab110 : Tryz.prog.underlying 110 = some Tryz.t110.desc ∧ Tryz.prog.info? 110 = some Tryz.t110 := ⟨by kernel_rfl, by kernel_rfl⟩
theorem tab111 : Tryz.prog.underlying 111 = some Tryz.t111.desc ∧ Tryz.prog.info? 111 = some Tryz.t111 := ⟨by kernel_rfl, by kernel_rfl⟩
theorem tab112 : Tryz.prog.underlying 112 = some Tryz.t112.desc ∧ Tryz.prog.info? 112 = some Tryz.t112 := ⟨by kernel_rfl, by kernel_rfl⟩
theorem tab113 : Tryz.prog.underlying 113 = some Tryz.t113.desc ∧ Tryz.prog.info? 113 = some Tryz.t113 := ⟨by kernel_rfl, by kernel_rfl⟩
theorem tab114 : Tryz.prog.underlying 114 = some Tryz.t114.desc ∧ Tryz.prog.info? 114 = some Tryz.t114 := ⟨by kernel_rfl, by kernel_rfl⟩
theorem tab115 : Tryz.prog.underlying 115 = some Tryz.t114.desc ∧ Tryz.prog.info? 115 = some Tryz.t115 := ⟨by kernel_rfl, by kernel_rfl⟩
theorem tab116 : Tryz.prog.underlying 116 = some Tryz.t116.desc ∧ Tryz.prog.info? 116 = some Tryz.t116 := ⟨by kernel_rfl, by kernel_rfl⟩
theorem tab117 : Tryz.prog.underlying 117 = some Tryz.t117.desc ∧ Tryz.prog.info? 117 = some Tryz.t117 := ⟨by kernel_rfl, by kernel_rfl⟩
theorem tab118 : Tryz.prog.underlying 118 = some Tryz.t118.desc ∧ Tryz.prog.info? 118 = some Tryz.t118 := ⟨by kernel_rfl, by kernel_rfl⟩
theorem tab119 : Tryz.prog.underlying 119 = some Tryz.t118.desc ∧ Tryz.prog.info? 119 = some Tryz.t119 := ⟨by kernel_rfl, by kernel_rfl⟩
theorem tab120 : Tryz.prog.underlying 120 = some Tryz.t120.desc ∧ Tryz.prog.info? 120 = some Tryz.t120 := ⟨by kernel_rfl, by kernel_rfl⟩
theorem tab121 : Tryz.prog.underlying 121 = some Tryz.t121.desc ∧ Tryz.prog.info? 121 = some Tryz.t121 := ⟨by kernel_rfl, by kernel_rfl⟩
theorem tab122 : Tryz.prog.underlying 122 = some Tryz.t122.desc ∧ Tryz.prog.info? 122 = some Tryz.t122 := ⟨by kernel_rfl, by kernel_rfl⟩
theorem tab123 : Tryz.prog.underlying 123 = some Tryz.t122.desc ∧ Tryz.prog.info? 123 = some Tryz.t123 := ⟨by kernel_rfl, by kernel_rfl⟩
theorem tab125 : Tryz.prog.underlying 125 = some Tryz.t125.desc ∧ Tryz.prog.info? 125 = some Tryz.t125 := ⟨by kernel_rfl, by kernel_rfl⟩
theorem tab126 : Tryz.prog.underlying 126 = some Tryz.t126.desc ∧ Tryz.prog.info? 126 = some Tryz.t126 := ⟨by kernel_rfl, by kernel_rfl⟩
theorem tab127 : Tryz.prog.underlying 127 = some Tryz.t127.desc ∧ Tryz.prog.info? 127 = some Tryz.t127 := ⟨by kernel_rfl, by kernel_rfl⟩
theorem tab128 : Tryz.prog.underlying 128 = some Tryz.t128.desc ∧ Tryz.prog.info? 128 = some Tryz.t128 := ⟨by kernel_rfl, by kernel_rfl⟩
theorem tab129 : Tryz.prog.underlying 129 = some Tryz.t129.desc ∧ Tryz.prog.info? 129 = some Tryz.t129 := ⟨by kernel_rfl, by kernel_rfl⟩
theorem tab130 : Tryz.prog.underlying 130 = some Tryz.t130.desc ∧ Tryz.prog.info? 130 = some Tryz.t130 := ⟨by kernel_rfl, by kernel_rfl⟩
theorem tab131 : Tryz.prog.underlying 131 = some Tryz.t131.desc ∧ Tryz.prog.info? 131 = some Tryz.t131 := ⟨by kernel_rfl, by kernel_rfl⟩
theorem tab132 : Tryz.prog.underlying 132 = some Tryz.t132.desc ∧ Tryz.prog.info? 132 = some Tryz.t132 := ⟨by kernel_rfl, by kernel_rfl⟩
theorem tab133 : Tryz.prog.underlying 133 = some Tryz.t133.desc ∧ Tryz.prog.info? 133 = some Tryz.t133 := ⟨by kernel_rfl, by kernel_rfl⟩
theorem tab134 : Tryz.prog.underlying 134 = some Tryz.t134.desc ∧ Tryz.prog.info? 134 = some Tryz.t134 := ⟨by kernel_rfl, by kernel_rfl⟩
theorem tab135 : Tryz.prog.underlying 135 = some Tryz.t135.desc ∧ Tryz.prog.info? 135 = some Tryz.t135 := ⟨by kernel_rfl, by kernel_rfl⟩
theorem tab136 : Tryz.prog.underlying 136 = some Tryz.t136.desc ∧ Tryz.prog.info? 136 = some Tryz.t136 := ⟨by kernel_rfl, by kernel_rfl⟩
theorem tab138 : Tryz.prog.underlying 138 = some Tryz.t138.desc ∧ Tryz.prog.info? 138 = some Tryz.t138 := ⟨by kernel_rfl, by kernel_rfl⟩
theorem tab139 : Tryz.prog.underlying 139 = some Tryz.t139.desc ∧ Tryz.prog.info? 139 = some Tryz.t139 := ⟨by kernel_rfl, by kernel_rfl⟩
theorem tab141 : Tryz.prog.underlying 141 = some Tryz.t141.desc ∧ Tryz.prog.info? 141 = some Tryz.t141 := ⟨by kernel_rfl, by kernel_rfl⟩
theorem tab142 : Tryz.prog.underlying 142 = some Tryz.t142.desc ∧ Tryz.prog.info? 142 = some Tryz.t142 := ⟨by kernel_rfl, by kernel_rfl⟩
theorem tab143 : Tryz.prog.underlying 143 = some Tryz.t143.desc ∧ Tryz.prog.info? 143 = some Tryz.t143 := ⟨by kernel_rfl, by kernel_rfl⟩
theorem tab144 : Tryz.prog.underlying 144 = some Tryz.t144.desc ∧ Tryz.prog.info? 144 = some Tryz.t144 := ⟨by kernel_rfl, by kernel_rfl⟩
theorem tab145 : Tryz.prog.underlying 145 = some Tryz.t145.desc ∧ Tryz.prog.info? 145 = some Tryz.t145 := ⟨by kernel_rfl, by kernel_rfl⟩
theorem tab146 : Tryz.prog.underlying 146 = some Tryz.t146.desc ∧ Tryz.prog.info? 146 = some Tryz.t146 := ⟨by kernel_rfl, by kernel_rfl⟩
theorem tab147 : Tryz.prog.underlying 147 = some Tryz.t147.desc ∧ Tryz.prog.info? 147 = some Tryz.t147 := ⟨by kernel_rfl, by kernel_rfl⟩
theorem tab148 : Tryz.prog.underlying 148 = some Tryz.t148.desc ∧ Tryz.prog.info? 148 = some Tryz.t148 := ⟨by kernel_rfl, by kernel_rfl⟩
theorem tab149 : Tryz.prog.underlying 149 = some Tryz.t148.desc ∧ Tryz.prog.info? 149 = some Tryz.t149 := ⟨by kernel_rfl, by kernel_rfl⟩
theorem tab150 : Tryz.prog.underlying 150 = some Tryz.t150.desc ∧ Tryz.prog.info? 150 = some Tryz.t150 := ⟨by kernel_rfl, by kernel_rfl⟩
theorem tab151 : Tryz.prog.underlying 151 = some Tryz.t151.desc ∧ Tryz.prog.info? 151 = some Tryz.t151 := ⟨by kernel_rfl, by kernel_rfl⟩
theorem tab152 : Tryz.prog.underlying 152 = some Tryz.t152.desc ∧ Tryz.prog.info? 152 = some Tryz.t152 := ⟨by kernel_rfl, by kernel_rfl⟩
theorem tab153 : Tryz.prog.underlying 153 = some Tryz.t153.desc ∧ Tryz.prog.info? 153 = some Tryz.t153 := ⟨by kernel_rfl, by kernel_rfl⟩
theorem tab154 : Tryz.prog.underlying 154 = some Tryz.t154.desc ∧ Tryz.prog.info? 154 = some Tryz.t154 := ⟨by kernel_rfl, by kernel_rfl⟩
theorem tab155 : Tryz.prog.underlying 155 = some Tryz.t155.desc ∧ Tryz.prog.info? 155 = some Tryz.t155 := ⟨by kernel_rfl, by kernel_rfl⟩
theorem tab157 : Tryz.prog.underlying 157 = some Tryz.t157.desc ∧ Tryz.prog.info? 157 = some Tryz.t157 := ⟨by kernel_rfl, by kernel_rfl⟩
theorem tab158 : Tryz.prog.underlying 158 = some Tryz.t158.desc ∧ Tryz.prog.info? 158 = some Tryz.t158 := ⟨by kernel_rfl, by kernel_rfl⟩
theorem tab159 : Tryz.prog.underlying 159 = some Tryz.t159.desc ∧ Tryz.prog.info? 159 = some Tryz.t159 := ⟨by kernel_rfl, by kernel_rfl⟩
theorem tab160 : Tryz.prog.underlying 160 = some Tryz.t160.desc ∧ Tryz.prog.info? 160 = some Tryz.t160 := ⟨by kernel_rfl, by kernel_rfl⟩
theorem tab161 : Tryz.prog.underlying 161 = some Tryz.t161.desc ∧ Tryz.prog.info? 161 = some Tryz.t161 := ⟨by kernel_rfl, by kernel_rfl⟩
theorem tab162 : Tryz.prog.underlying 162 = some Tryz.t162.desc ∧ Tryz.prog.info? 162 = some Tryz.t162 := ⟨by kernel_rfl, by kernel_rfl⟩
theorem tab163 : Tryz.prog.underlying 163 = some Tryz.t163.desc ∧ Tryz.prog.info? 163 = some Tryz.t163 := ⟨by kernel_rfl, by kernel_rfl⟩
theorem tab164 : Tryz.prog.underlying 164 = some Tryz.t164.desc ∧ Tryz.prog.info? 164 = some Tryz.t164 := ⟨by kernel_rfl, by kernel_rfl⟩
theorem tab165 : Tryz.prog.underlying 165 = some Tryz.t165.desc ∧ Tryz.prog.info? 165 = some Tryz.t165 := ⟨by kernel_rfl, by kernel_rfl⟩
theorem tab166 : Tryz.prog.underlying 166 = some Tryz.t166.desc ∧ Tryz.prog.info? 166 = some Tryz.t166 := ⟨by kernel_rfl, by kernel_rfl⟩
theorem tab167 : Tryz.prog.underlying 167 = some Tryz.t167.desc ∧ Tryz.prog.info? 167 = some Tryz.t167 := ⟨by kernel_rfl, by kernel_rfl⟩
theorem tab168 : Tryz.prog.underlying 168 = some Tryz.t130.desc ∧ Tryz.prog.info? 168 = some Tryz.t168 := ⟨by kernel_rfl, by kernel_rfl⟩
theorem tab169 : Tryz.prog.underlying 169 = some Tryz.t169.desc ∧ Tryz.prog.info? 169 = some Tryz.t169 := ⟨by kernel_rfl, by kernel_rfl⟩
theorem tab170 : Tryz.prog.underlying 170 = some Tryz.t170.desc ∧ Tryz.prog.info? 170 = some Tryz.t170 := ⟨by kernel_rfl, by kernel_rfl⟩
theorem tab171 : Tryz.prog.underlying 171 = some Tryz.t171.desc ∧ Tryz.prog.info? 171 = some Tryz.t171 := ⟨by kernel_rfl, by kernel_rfl⟩
theorem tab172 : Tryz.prog.underlying 172 = some Tryz.t172.desc ∧ Tryz.prog.info? 172 = some Tryz.t172 := ⟨by kernel_rfl, by kernel_rfl⟩
theorem tab173 : Tryz.prog.underlying 173 = some Tryz.t173.desc ∧ Tryz.prog.info? 173 = some Tryz.t173 := ⟨by kernel_rfl, by kernel_rfl⟩
theorem tab174 : Tryz.prog.underlying 174 = some Tryz.t174.desc ∧ Tryz.prog.info? 174 = some Tryz.t174 := ⟨by kernel_rfl, by kernel_rfl⟩
theorem tab176 : Tryz.prog.underlying 176 = some Tryz.t176.desc ∧ Tryz.prog.info? 176 = some Tryz.t176 := ⟨by kernel_rfl, by kernel_rfl⟩
theorem tab177 : Tryz.prog.underlying 177 = some Tryz.t177.desc ∧ Tryz.prog.info? 177 = some Tryz.t177 := ⟨by kernel_rfl, by kernel_rfl⟩
theorem tab178 : Tryz.prog.underlying 178 = some Tryz.t178.desc ∧ Tryz.prog.info? 178 = some Tryz.t178 := ⟨by kernel_rfl, by kernel_rfl⟩
theorem tab179 : Tryz.prog.underlying 179 = some Tryz.t179.desc ∧ Tryz.prog.info? 179 = some Tryz.t179 := ⟨by kernel_rfl, by kernel_rfl⟩
theorem tab180 : Tryz.prog.underlying 180 = some Tryz.t180.desc ∧ Tryz.prog.info? 180 = some Tryz.t180 := ⟨by kernel_rfl, by kernel_rfl⟩
theorem tab181 : Tryz.prog.underlying 181 = some Tryz.t181.desc ∧ Tryz.prog.info? 181 = some Tryz.t181 := ⟨by kernel_rfl, by kernel_rfl⟩
theorem tab182 : Tryz.prog.underlying 182 = some Tryz.t182.desc ∧ Tryz.prog.info? 182 = some Tryz.t182 := ⟨by kernel_rfl, by kernel_rfl⟩
theorem tab183 : Tryz.prog.underlying 183 = some Tryz.t182.desc ∧ Tryz.prog.info? 183 = some Tryz.t183 := ⟨by kernel_rfl, by kernel_rfl⟩
theorem tab184 : Tryz.prog.underlying 184 = some Tryz.t184.desc ∧ Tryz.prog.info? 184 = some Tryz.t184 := ⟨by kernel_rfl, by kernel_rfl⟩
theorem tab186 : Tryz.prog.underlying 186 = some Tryz.t186.desc ∧ Tryz.prog.info? 186 = some Tryz.t186 := ⟨by kernel_rfl, by kernel_rfl⟩
theorem tab187 : Tryz.prog.underlying 187 = some Tryz.t187.desc ∧ Tryz.prog.info? 187 = some Tryz.t187 := ⟨by kernel_rfl, by kernel_rfl⟩
theorem tab188 : Tryz.prog.underlying 188 = some Tryz.t188.desc ∧ Tryz.prog.info? 188 = some Tryz.t188 := ⟨by kernel_rfl, by kernel_rfl⟩
theorem tab189 : Tryz.prog.underlying 189 = some Tryz.t189.desc ∧ Tryz.prog.info? 189 = some Tryz.t189 := ⟨by kernel_rfl, by kernel_rfl⟩
theorem tab190 : Tryz.prog.underlying 190 = some Tryz.t190.desc ∧ Tryz.prog.info? 190 = some Tryz.t190 := ⟨by kernel_rfl, by kernel_rfl⟩
theorem tab191 : Tryz.prog.underlying 191 = some Tryz.t191.desc ∧ Tryz.prog.info? 191 = some Tryz.t191 := ⟨by kernel_rfl, by kernel_rfl⟩
theorem tab192 : Tryz.prog.underlying 192 = some Tryz.t191.desc ∧ Tryz.prog.info? 192 = some Tryz.t192 := ⟨by kernel_rfl, by kernel_rfl⟩
theorem tab193 : Tryz.prog.underlying 193 = some Tryz.t193.desc ∧ Tryz.prog.info? 193 = some Tryz.t193 := ⟨by kernel_rfl, by kernel_rfl⟩
theorem tab194 : Tryz.prog.underlying 194 = some Tryz.t194.desc ∧ Tryz.prog.info? 194 = some Tryz.t194 := ⟨by kernel_rfl, by kernel_rfl⟩
theorem tab195 : Tryz.prog.underlying 195 = some Tryz.t195.desc ∧ Tryz.prog.info? 195 = some Tryz.t195 := ⟨by kernel_rfl, by kernel_rfl⟩
theorem tab196 : Tryz.prog.underlying 196 = some Tryz.t195.desc ∧ Tryz.prog.info? 196 = some Tryz.t196 := ⟨by kernel_rfl, by kernel_rfl⟩
theorem tab197 : Tryz.prog.underlying 197 = some Tryz.t197.desc ∧ Tryz.prog.info? 197 = some Tryz.t197 := ⟨by kernel_rfl, by kernel_rfl⟩
theorem tab198 : Tryz.prog.underlying 198 = some Tryz.t198.desc ∧ Tryz.prog.info? 198 = some Tryz.t198 := ⟨by kernel_rfl, by kernel_rfl⟩
theorem tab199 : Tryz.prog.underlying 199 = some Tryz.t199.desc ∧ Tryz.prog.info? 199 = some Tryz.t199 := ⟨by kernel_rfl, by kernel_rfl⟩
theorem tab200 : Tryz.prog.underlying 200 = some Tryz.t3.desc ∧ Tryz.prog.info? 200 = some Tryz.t200 := ⟨by kernel_rfl, by kernel_rfl⟩
theorem tab202 : Tryz.prog.underlying 202 = some Tryz.t202.desc ∧ Tryz.prog.info? 202 = some Tryz.t202 := ⟨by kernel_rfl, by kernel_rfl⟩
theorem tab203 : Tryz.prog.underlying 203 = some Tryz.t203.desc ∧ Tryz.prog.info? 203 = some Tryz.t203 := ⟨by kernel_rfl, by kernel_rfl⟩
theorem tab204 : Tryz.prog.underlying 204 = some Tryz.t204.desc ∧ Tryz.prog.info? 204 = some Tryz.t204 := ⟨by kernel_rfl, by kernel_rfl⟩
theorem tab206 : Tryz.prog.underlying 206 = some Tryz.t206.desc ∧ Tryz.prog.info? 206 = some Tryz.t206 := ⟨by kernel_rfl, by kernel_rfl⟩
theorem tab207 : Tryz.prog.underlying 207 = some Tryz.t207.desc ∧ Tryz.prog.info? 207 = some Tryz.t207 := ⟨by kernel_rfl, by kernel_rfl⟩
theorem tab208 : Tryz.prog.underlying 208 = some Tryz.t208.desc ∧ Tryz.prog.info? 208 = some Tryz.t208 := ⟨by kernel_rfl, by kernel_rfl⟩
theorem tab209 : Tryz.prog.underlying 209 = some Tryz.t209.desc ∧ Tryz.prog.info? 209 = some Tryz.t209 := ⟨by kernel_rfl, by kernel_rfl⟩
theorem tab210 : Tryz.prog.underlying 210 = some Tryz.t210.desc ∧ Tryz.prog.info? 210 = some Tryz.t210 := ⟨by kernel_rfl, by kernel_rfl⟩
theorem tab211 : Tryz.prog.underlying 211 = some Tryz.t211.desc ∧ Tryz.prog.info? 211 = some Tryz.t211 := ⟨by kernel_rfl, by kernel_rfl⟩
theorem tab212 : Tryz.prog.underlying 212 = some Tryz.t212.desc ∧ Tryz.prog.info? 212 = some Tryz.t212 := ⟨by kernel_rfl, by kernel_rfl⟩
theorem tab213 : Tryz.prog.underlying 213 = some Tryz.t213.desc ∧ Tryz.prog.info? 213 = some Tryz.t213 := ⟨by kernel_rfl, by kernel_rfl⟩
theorem tab214 : Tryz.prog.underlying 214 = some Tryz.t214.desc ∧ Tryz.prog.info? 214 = some Tryz.t214 := ⟨by kernel_rfl, by kernel_rfl⟩
theorem tab215 : Tryz.prog.underlying 215 = some Tryz.t215.desc ∧ Tryz.prog.info? 215 = some Tryz.t215 := ⟨by kernel_rfl, by kernel_rfl⟩
theorem tab217 : Tryz.prog.underlying 217 = some Tryz.t217.desc ∧ Tryz.prog.info? 217 = some Tryz.t217 := ⟨by kernel_rfl, by kernel_rfl⟩
theorem tab218 : Tryz.prog.underlying 218 = some Tryz.t218.desc ∧ Tryz.prog.info? 218 = some Tryz.t218 := ⟨by kernel_rfl, by kernel_rfl⟩
theorem tab219 : Tryz.prog.underlying 219 = some Tryz.t219.desc ∧ Tryz.prog.info? 219 = some Tryz.t219 := ⟨by kernel_rfl, by kernel_rfl⟩
theorem tab220 : Tryz.prog.underlying 220 = some Tryz.t219.desc ∧ Tryz.prog.info? 220 = some Tryz.t220 := ⟨by kernel_rfl, by kernel_rfl⟩
theorem tab221 : Tryz.prog.underlying 221 = some Tryz.t221.desc ∧ Tryz.prog.info? 221 = some Tryz.t221 := ⟨by kernel_rfl, by kernel_rfl⟩
theorem tab222 : Tryz.prog.underlying 222 = some Tryz.t222.desc ∧ Tryz.prog.info? 222 = some Tryz.t222 := ⟨by kernel_rfl, by kernel_rfl⟩
theorem tab223 : Tryz.prog.underlying 223 = some Tryz.t128.desc ∧ Tryz.prog.info? 223 = some Tryz.t223 := ⟨by kernel_rfl, by kernel_rfl⟩
theorem tab224 : Tryz.prog.underlying 224 = some Tryz.t224.desc ∧ Tryz.prog.info? 224 = some Tryz.t224 := ⟨by kernel_rfl, by kernel_rfl⟩
theorem tab225 : Tryz.prog.underlying 225 = some Tryz.t225.desc ∧ Tryz.prog.info? 225 = some Tryz.t225 := ⟨by kernel_rfl, by kernel_rfl⟩
theorem tab226 : Tryz.prog.underlying 226 = some Tryz.t226.desc ∧ Tryz.prog.info? 226 = some Tryz.t226 := ⟨by kernel_rfl, by kernel_rfl⟩
theorem tab227 : Tryz.prog.underlying 227 = some Tryz.t227.desc ∧ Tryz.prog.info? 227 = some Tryz.t227 := ⟨by kernel_rfl, by kernel_rfl⟩
theorem tab228 : Tryz.prog.underlying 228 = some Tryz.t228.desc ∧ Tryz.prog.info? 228 = some Tryz.t228 := ⟨by kernel_rfl, by kernel_rfl⟩
theorem tab229 : Tryz.prog.underlying 229 = some Tryz.t229.desc ∧ Tryz.prog.info? 229 = some Tryz.t229 := ⟨by kernel_rfl, by kernel_rfl⟩
theorem tab230 : Tryz.prog.underlying 230 = some Tryz.t230.desc ∧ Tryz.prog.info? 230 = some Tryz.t230 := ⟨by kernel_rfl, by kernel_rfl⟩
theorem tab231 : Tryz.prog.underlying 231 = some Tryz.t231.desc ∧ Tryz.prog.info? 231 = some Tryz.t231 := ⟨by kernel_rfl, by kernel_rfl⟩
theorem tab232 : Tryz.prog.underlying 232 = some Tryz.t232.desc ∧ Tryz.prog.info? 232 = some Tryz.t232 := ⟨by kernel_rfl, by kernel_rfl⟩
theorem tab234 : Tryz.prog.underlying 234 = some Tryz.t234.desc ∧ Tryz.prog.info? 234 = some Tryz.t234 := ⟨by kernel_rfl, by kernel_rfl⟩
theorem tab235 : Tryz.prog.underlying 235 = some Tryz.t235.desc ∧ Tryz.prog.info? 235 = some Tryz.t235 := ⟨by kernel_rfl, by kernel_rfl⟩
theorem tab236 : Tryz.prog.underlying 236 = some Tryz.t236.desc ∧ Tryz.prog.info? 236 = some Tryz.t236 := ⟨by kernel_rfl, by kernel_rfl⟩
theorem tab237 : Tryz.prog.underlying 237 = some Tryz.t237.desc ∧ Tryz.prog.info? 237 = some Tryz.t237 := ⟨by kernel_rfl, by kernel_rfl⟩
theorem tab238 : Tryz.prog.underlying 238 = some Tryz.t237.desc ∧ Tryz.prog.info? 238 = some Tryz.t238 := ⟨by kernel_rfl, by kernel_rfl⟩
theorem tab239 : Tryz.prog.underlying 239 = some Tryz.t239.desc ∧ Tryz.prog.info? 239 = some Tryz.t239 := ⟨by kernel_rfl, by kernel_rfl⟩
theorem tab240 : Tryz.prog.underlying 240 = some Tryz.t240.desc ∧ Tryz.prog.info? 240 = some Tryz.t240 := ⟨by kernel_rfl, by kernel_rfl⟩
theorem tab241 : Tryz.prog.underlying 241 = some Tryz.t240.desc ∧ Tryz.prog.info? 241 = some Tryz.t241 := ⟨by kernel_rfl, by kernel_rfl⟩
theorem tab242 : Tryz.prog.underlying 242 = some Tryz.t5.desc ∧ Tryz.prog.info? 242 = some Tryz.t242 := ⟨by kernel_rfl, by kernel_rfl⟩
theorem tab243 : Tryz.prog.underlying 243 = some Tryz.t5.desc ∧ Tryz.prog.info? 243 = some Tryz.t243 := ⟨by kernel_rfl, by kernel_rfl⟩
theorem tab244 : Tryz.prog.underlying 244 = some Tryz.t244.desc ∧ Tryz.prog.info? 244 = some Tryz.t244 := ⟨by kernel_rfl, by kernel_rfl⟩
theorem tab245 : Tryz.prog.underlying 245 = some Tryz.t245.desc ∧ Tryz.prog.info? 245 = some Tryz.t245 := ⟨by kernel_rfl, by kernel_rfl⟩
theorem tab246 : Tryz.prog.underlying 246 = some Tryz.t21.desc ∧ Tryz.prog.info? 246 = some Tryz.t246 := ⟨by kernel_rfl, by kernel_rfl⟩
theorem tab247 : Tryz.prog.underlying 247 = some Tryz.t21.desc ∧ Tryz.prog.info? 247 = some Tryz.t247 := ⟨by kernel_rfl, by kernel_rfl⟩
theorem tab248 : Tryz.prog.underlying 248 = some Tryz.t248.desc ∧ Tryz.prog.info? 248 = some Tryz.t248 := ⟨by kernel_rfl, by kernel_rfl⟩
theorem tab249 : Tryz.prog.underlying 249 = some Tryz.t248.desc ∧ Tryz.prog.info? 249 = some Tryz.t249 := ⟨by kernel_rfl, by kernel_rfl⟩
theorem tab250 : Tryz.prog.underlying 250 = some Tryz.t250.desc ∧ Tryz.prog.info? 250 = some Tryz.t250 := ⟨by kernel_rfl, by kernel_rfl⟩
noncomputable def tab : Tr := (.node 128 ⟨Tryz.t128.desc, Tryz.t128⟩ (.node 64 ⟨Tryz.t64.desc, Tryz.t64⟩ (.node 30 ⟨Tryz.t29.desc, Tryz.t30⟩ (.node 15 ⟨Tryz.t15.desc, Tryz.t15⟩ (.node 8 ⟨Tryz.t7.desc, Tryz.t8⟩ (.node 4 ⟨Tryz.t4.desc, Tryz.t4⟩ (.node 2 ⟨Tryz.t2.desc, Tryz.t2⟩ (.node 1 ⟨Tryz.t1.desc, Tryz.t1⟩ .leaf .leaf) (.node 3 ⟨Tryz.t3.desc, Tryz.t3⟩ .leaf .leaf)) (.node 6 ⟨Tryz.t5.desc, Tryz.t6⟩ (.node 5 ⟨Tryz.t5.desc, Tryz.t5⟩ .leaf .leaf) (.node 7 ⟨Tryz.t7.desc, Tryz.t7⟩ .leaf .leaf))) (.node 12 ⟨Tryz.t12.desc, Tryz.t12⟩ (.node 10 ⟨Tryz.t9.desc, Tryz.t10⟩ (.node 9 ⟨Tryz.t9.desc, Tryz.t9⟩ .leaf .leaf) (.node 11 ⟨Tryz.t9.desc, Tryz.t11⟩ .leaf .leaf)) (.node 14 ⟨Tryz.t13.desc, Tryz.t14⟩ (.node 13 ⟨Tryz.t13.desc, Tryz.t13⟩ .leaf .leaf) .leaf))) (.node 22 ⟨Tryz.t22.desc, Tryz.t22⟩ (.node 19 ⟨Tryz.t18.desc, Tryz.t19⟩ (.node 17 ⟨Tryz.t17.desc, Tryz.t17⟩ (.node 16 ⟨Tryz.t16.desc, Tryz.t16⟩ .leaf .leaf) (.node 18 ⟨Tryz.t18.desc, Tryz.t18⟩ .leaf .leaf)) (.node 21 ⟨Tryz.t21.desc, Tryz.t21⟩ (.node 20 ⟨Tryz.t20.desc, Tryz.t20⟩ .leaf .leaf) .leaf)) (.node 26 ⟨Tryz.t3.desc, Tryz.t26⟩ (.node 24 ⟨Tryz.t24.desc, Tryz.t24⟩ (.node 23 ⟨Tryz.t23.desc, Tryz.t23⟩ .leaf .leaf) (.node 25 ⟨Tryz.t25.desc, Tryz.t25⟩ .leaf .leaf)) (.node 29 ⟨Tryz.t29.desc, Tryz.t29⟩ (.node 28 ⟨Tryz.t28.desc, Tryz.t28⟩ .leaf .leaf) .leaf)))) (.node 48 ⟨Tryz.t48.desc, Tryz.t48⟩ (.node 40 ⟨Tryz.t40.desc, Tryz.t40⟩ (.node 35 ⟨Tryz.t35.desc, Tryz.t35⟩ (.node 32 ⟨Tryz.t31.desc, Tryz.t32⟩ (.node 31 ⟨Tryz.t31.desc, Tryz.t31⟩ .leaf .leaf) (.node 34 ⟨Tryz.t34.desc, Tryz.t34⟩ .leaf .leaf)) (.node 38 ⟨Tryz.t38.desc, Tryz.t38⟩ (.node 37 ⟨Tryz.t37.desc, Tryz.t37⟩ .leaf .leaf) (.node 39 ⟨Tryz.t39.desc, Tryz.t39⟩ .leaf .leaf))) (.node 45 ⟨Tryz.t45.desc, Tryz.t45⟩ (.node 43 ⟨Tryz.t43.desc, Tryz.t43⟩ (.node 41 ⟨Tryz.t41.desc, Tryz.t41⟩ .leaf .leaf) (.node 44 ⟨Tryz.t44.desc, Tryz.t44⟩ .leaf .leaf)) (.node 47 ⟨Tryz.t47.desc, Tryz.t47⟩ (.node 46 ⟨Tryz.t46.desc, Tryz.t46⟩ .leaf .leaf) .leaf))) (.node 55 ⟨Tryz.t54.desc, Tryz.t55⟩ (.node 52 ⟨Tryz.t51.desc, Tryz.t52⟩ (.node 50 ⟨Tryz.t50.desc, Tryz.t50⟩ (.node 49 ⟨Tryz.t49.desc, Tryz.t49⟩ .leaf .leaf) (.node 51 ⟨Tryz.t51.desc, Tryz.t51⟩ .leaf .leaf)) (.node 54 ⟨Tryz.t54.desc, Tryz.t54⟩ (.node 53 ⟨Tryz.t53.desc, Tryz.t53⟩ .leaf .leaf) .leaf)) (.node 60 ⟨Tryz.t60.desc, Tryz.t60⟩ (.node 57 ⟨Tryz.t57.desc, Tryz.t57⟩ (.node 56 ⟨Tryz.t56.desc, Tryz.t56⟩ .leaf .leaf) (.node 59 ⟨Tryz.t59.desc, Tryz.t59⟩ .leaf .leaf)) (.node 62 ⟨Tryz.t62.desc, Tryz.t62⟩ (.node 61 ⟨Tryz.t61.desc, Tryz.t61⟩ .leaf .leaf) .leaf))))) (.node 95 ⟨Tryz.t95.desc, Tryz.t95⟩ (.node 80 ⟨Tryz.t80.desc, Tryz.t80⟩ (.node 73 ⟨Tryz.t73.desc, Tryz.t73⟩ (.node 68 ⟨Tryz.t68.desc, Tryz.t68⟩ (.node 66 ⟨Tryz.t66.desc, Tryz.t66⟩ (.node 65 ⟨Tryz.t65.desc, Tryz.t65⟩ .leaf .leaf) (.node 67 ⟨Tryz.t67.desc, Tryz.t67⟩ .leaf .leaf)) (.node 70 ⟨Tryz.t70.desc, Tryz.t70⟩ (.node 69 ⟨Tryz.t69.desc, Tryz.t69⟩ .leaf .leaf) (.node 71 ⟨Tryz.t71.desc, Tryz.t71⟩ .leaf .leaf))) (.node 77 ⟨Tryz.t77.desc, Tryz.t77⟩ (.node 75 ⟨Tryz.t75.desc, Tryz.t75⟩ (.node 74 ⟨Tryz.t74.desc, Tryz.t74⟩ .leaf .leaf) (.node 76 ⟨Tryz.t76.desc, Tryz.t76⟩ .leaf .leaf)) (.node 79 ⟨Tryz.t79.desc, Tryz.t79⟩ (.node 78 ⟨Tryz.t78.desc, Tryz.t78⟩ .leaf .leaf) .leaf))) (.node 88 ⟨Tryz.t88.desc, Tryz.t88⟩ (.node 84 ⟨Tryz.t84.desc, Tryz.t84⟩ (.node 82 ⟨Tryz.t82.desc, Tryz.t82⟩ (.node 81 ⟨Tryz.t80.desc, Tryz.t81⟩ .leaf .leaf) (.node 83 ⟨Tryz.t83.desc, Tryz.t83⟩ .leaf .leaf)) (.node 87 ⟨Tryz.t87.desc, Tryz.t87⟩ (.node 85 ⟨Tryz.t84.desc, Tryz.t85⟩ .leaf .leaf) .leaf)) (.node 92 ⟨Tryz.t91.desc, Tryz.t92⟩ (.node 90 ⟨Tryz.t90.desc, Tryz.t90⟩ (.node 89 ⟨Tryz.t89.desc, Tryz.t89⟩ .leaf .leaf) (.node 91 ⟨Tryz.t91.desc, Tryz.t91⟩ .leaf .leaf)) (.node 94 ⟨Tryz.t94.desc, Tryz.t94⟩ (.node 93 ⟨Tryz.t93.desc, Tryz.t93⟩ .leaf .leaf) .leaf)))) (.node 113 ⟨Tryz.t113.desc, Tryz.t113⟩ (.node 104 ⟨Tryz.t104.desc, Tryz.t104⟩ (.node 100 ⟨Tryz.t100.desc, Tryz.t100⟩ (.node 98 ⟨Tryz.t98.desc, Tryz.t98⟩ (.node 97 ⟨Tryz.t97.desc, Tryz.t97⟩ .leaf .leaf) (.node 99 ⟨Tryz.t99.desc, Tryz.t99⟩ .leaf .leaf)) (.node 103 ⟨Tryz.t103.desc, Tryz.t103⟩ (.node 101 ⟨Tryz.t101.desc, Tryz.t101⟩ .leaf .leaf) .leaf)) (.node 110 ⟨Tryz.t110.desc, Tryz.t110⟩ (.node 107 ⟨Tryz.t107.desc, Tryz.t107⟩ (.node 105 ⟨Tryz.t105.desc, Tryz.t105⟩ .leaf .leaf) (.node 109 ⟨Tryz.t109.desc, Tryz.t109⟩ .leaf .leaf)) (.node 112 ⟨Tryz.t112.desc, Tryz.t112⟩ (.node 111 ⟨Tryz.t111.desc, Tryz.t111⟩ .leaf .leaf) .leaf))) (.node 120 ⟨Tryz.t120.desc, Tryz.t120⟩ (.node 117 ⟨Tryz.t117.desc, Tryz.t117⟩ (.node 115 ⟨Tryz.t114.desc, Tryz.t115⟩ (.node 114 ⟨Tryz.t114.desc, Tryz.t114⟩ .leaf .leaf) (.node 116 ⟨Tryz.t116.desc, Tryz.t116⟩ .leaf .leaf)) (.node 119 ⟨Tryz.t118.desc, Tryz.t119⟩ (.node 118 ⟨Tryz.t118.desc, Tryz.t118⟩ .leaf .leaf) .leaf)) (.node 125 ⟨Tryz.t125.desc, Tryz.t125⟩ (.node 122 ⟨Tryz.t122.desc, Tryz.t122⟩ (.node 121 ⟨Tryz.t121.desc, Tryz.t121⟩ .leaf .leaf) (.node 123 ⟨Tryz.t122.desc, Tryz.t123⟩ .leaf .leaf)) (.node 127 ⟨Tryz.t127.desc, Tryz.t127⟩ (.node 126 ⟨Tryz.t126.desc, Tryz.t126⟩ .leaf .leaf) .leaf)))))) (.node 190 ⟨Tryz.t190.desc, Tryz.t190⟩ (.node 160 ⟨Tryz.t160.desc, Tryz.t160⟩ (.node 145 ⟨Tryz.t145.desc, Tryz.t145⟩ (.node 136 ⟨Tryz.t136.desc, Tryz.t136⟩ (.node 132 ⟨Tryz.t132.desc, Tryz.t132⟩ (.node 130 ⟨Tryz.t130.desc, Tryz.t130⟩ (.node 129 ⟨Tryz.t129.desc, Tryz.t129⟩ .leaf .leaf) (.node 131 ⟨Tryz.t131.desc, Tryz.t131⟩ .leaf .leaf)) (.node 134 ⟨Tryz.t134.desc, Tryz.t134⟩ (.node 133 ⟨Tryz.t133.desc, Tryz.t133⟩ .leaf .leaf) (.node 135 ⟨Tryz.t135.desc, Tryz.t135⟩ .leaf .leaf))) (.node 142 ⟨Tryz.t142.desc, Tryz.t142⟩ (.node 139 ⟨Tryz.t139.desc, Tryz.t139⟩ (.node 138 ⟨Tryz.t138.desc, Tryz.t138⟩ .leaf .leaf) (.node 141 ⟨Tryz.t141.desc, Tryz.t141⟩ .leaf .leaf)) (.node 144 ⟨Tryz.t144.desc, Tryz.t144⟩ (.node 143 ⟨Tryz.t143.desc, Tryz.t143⟩ .leaf .leaf) .leaf))) (.node 152 ⟨Tryz.t152.desc, Tryz.t152⟩ (.node 149 ⟨Tryz.t148.desc, Tryz.t149⟩ (.node 147 ⟨Tryz.t147.desc, Tryz.t147⟩ (.node 146 ⟨Tryz.t146.desc, Tryz.t146⟩ .leaf .leaf) (.node 148 ⟨Tryz.t148.desc, Tryz.t148⟩ .leaf .leaf)) (.node 151 ⟨Tryz.t151.desc, Tryz.t151⟩ (.node 150 ⟨Tryz.t150.desc, Tryz.t150⟩ .leaf .leaf) .leaf)) (.node 157 ⟨Tryz.t157.desc, Tryz.t157⟩ (.node 154 ⟨Tryz.t154.desc, Tryz.t154⟩ (.node 153 ⟨Tryz.t153.desc, Tryz.t153⟩ .leaf .leaf) (.node 155 ⟨Tryz.t155.desc, Tryz.t155⟩ .leaf .leaf)) (.node 159 ⟨Tryz.t159.desc, Tryz.t159⟩ (.node 158 ⟨Tryz.t158.desc, Tryz.t158⟩ .leaf .leaf) .leaf)))) (.node 174 ⟨Tryz.t174.desc, Tryz.t174⟩ (.node 167 ⟨Tryz.t167.desc, Tryz.t167⟩ (.node 164 ⟨Tryz.t164.desc, Tryz.t164⟩ (.node 162 ⟨Tryz.t162.desc, Tryz.t162⟩ (.node 161 ⟨Tryz.t161.desc, Tryz.t161⟩ .leaf .leaf) (.node 163 ⟨Tryz.t163.desc, Tryz.t163⟩ .leaf .leaf)) (.node 166 ⟨Tryz.t166.desc, Tryz.t166⟩ (.node 165 ⟨Tryz.t165.desc, Tryz.t165⟩ .leaf .leaf) .leaf)) (.node 171 ⟨Tryz.t171.desc, Tryz.t171⟩ (.node 169 ⟨Tryz.t169.desc, Tryz.t169⟩ (.node 168 ⟨Tryz.t130.desc, Tryz.t168⟩ .leaf .leaf) (.node 170 ⟨Tryz.t170.desc, Tryz.t170⟩ .leaf .leaf)) (.node 173 ⟨Tryz.t173.desc, Tryz.t173⟩ (.node 172 ⟨Tryz.t172.desc, Tryz.t172⟩ .leaf .leaf) .leaf))) (.node 182 ⟨Tryz.t182.desc, Tryz.t182⟩ (.node 179 ⟨Tryz.t179.desc, Tryz.t179⟩ (.node 177 ⟨Tryz.t177.desc, Tryz.t177⟩ (.node 176 ⟨Tryz.t176.desc, Tryz.t176⟩ .leaf .leaf) (.node 178 ⟨Tryz.t178.desc, Tryz.t178⟩ .leaf .leaf)) (.node 181 ⟨Tryz.t181.desc, Tryz.t181⟩ (.node 180 ⟨Tryz.t180.desc, Tryz.t180⟩ .leaf .leaf) .leaf)) (.node 187 ⟨Tryz.t187.desc, Tryz.t187⟩ (.node 184 ⟨Tryz.t184.desc, Tryz.t184⟩ (.node 183 ⟨Tryz.t182.desc, Tryz.t183⟩ .leaf .leaf) (.node 186 ⟨Tryz.t186.desc, Tryz.t186⟩ .leaf .leaf)) (.node 189 ⟨Tryz.t189.desc, Tryz.t189⟩ (.node 188 ⟨Tryz.t188.desc, Tryz.t188⟩ .leaf .leaf) .leaf))))) (.node 222 ⟨Tryz.t222.desc, Tryz.t222⟩ (.node 207 ⟨Tryz.t207.desc, Tryz.t207⟩ (.node 198 ⟨Tryz.t198.desc, Tryz.t198⟩ (.node 194 ⟨Tryz.t194.desc, Tryz.t194⟩ (.node 192 ⟨Tryz.t191.desc, Tryz.t192⟩ (.node 191 ⟨Tryz.t191.desc, Tryz.t191⟩ .leaf .leaf) (.node 193 ⟨Tryz.t193.desc, Tryz.t193⟩ .leaf .leaf)) (.node 196 ⟨Tryz.t195.desc, Tryz.t196⟩ (.node 195 ⟨Tryz.t195.desc, Tryz.t195⟩ .leaf .leaf) (.node 197 ⟨Tryz.t197.desc, Tryz.t197⟩ .leaf .leaf))) (.node 203 ⟨Tryz.t203.desc, Tryz.t203⟩ (.node 200 ⟨Tryz.t3.desc, Tryz.t200⟩ (.node 199 ⟨Tryz.t199.desc, Tryz.t199⟩ .leaf .leaf) (.node 202 ⟨Tryz.t202.desc, Tryz.t202⟩ .leaf .leaf)) (.node 206 ⟨Tryz.t206.desc, Tryz.t206⟩ (.node 204 ⟨Tryz.t204.desc, Tryz.t204⟩ .leaf .leaf) .leaf))) (.node 214 ⟨Tryz.t214.desc, Tryz.t214⟩ (.node 211 ⟨Tryz.t211.desc, Tryz.t211⟩ (.node 209 ⟨Tryz.t209.desc, Tryz.t209⟩ (.node 208 ⟨Tryz.t208.desc, Tryz.t208⟩ .leaf .leaf) (.node 210 ⟨Tryz.t210.desc, Tryz.t210⟩ .leaf .leaf)) (.node 213 ⟨Tryz.t213.desc, Tryz.t213⟩ (.node 212 ⟨Tryz.t212.desc, Tryz.t212⟩ .leaf .leaf) .leaf)) (.node 219 ⟨Tryz.t219.desc, Tryz.t219⟩ (.node 217 ⟨Tryz.t217.desc, Tryz.t217⟩ (.node 215 ⟨Tryz.t215.desc, Tryz.t215⟩ .leaf .leaf) (.node 218 ⟨Tryz.t218.desc, Tryz.t218⟩ .leaf .leaf)) (.node 221 ⟨Tryz.t221.desc, Tryz.t221⟩ (.node 220 ⟨Tryz.t219.desc, Tryz.t220⟩ .leaf .leaf) .leaf)))) (.node 237 ⟨Tryz.t237.desc, Tryz.t237⟩ (.node 229 ⟨Tryz.t229.desc, Tryz.t229⟩ (.node 226 ⟨Tryz.t226.desc, Tryz.t226⟩ (.node 224 ⟨Tryz.t224.desc, Tryz.t224⟩ (.node 223 ⟨Tryz.t128.desc, Tryz.t223⟩ .leaf .leaf) (.node 225 ⟨Tryz.t225.desc, Tryz.t225⟩ .leaf .leaf)) (.node 228 ⟨Tryz.t228.desc, Tryz.t228⟩ (.node 227 ⟨Tryz.t227.desc, Tryz.t227⟩ .leaf .leaf) .leaf)) (.node 234 ⟨Tryz.t234.desc, Tryz.t234⟩ (.node 231 ⟨Tryz.t231.desc, Tryz.t231⟩ (.node 230 ⟨Tryz.t230.desc, Tryz.t230⟩ .leaf .leaf) (.node 232 ⟨Tryz.t232.desc, Tryz.t232⟩ .leaf .leaf)) (.node 236 ⟨Tryz.t236.desc, Tryz.t236⟩ (.node 235 ⟨Tryz.t235.desc, Tryz.t235⟩ .leaf .leaf) .leaf))) (.node 244 ⟨Tryz.t244.desc, Tryz.t244⟩ (.node 241 ⟨Tryz.t240.desc, Tryz.t241⟩ (.node 239 ⟨Tryz.t239.desc, Tryz.t239⟩ (.node 238 ⟨Tryz.t237.desc, Tryz.t238⟩ .leaf .leaf) (.node 240 ⟨Tryz.t240.desc, Tryz.t240⟩ .leaf .leaf)) (.node 243 ⟨Tryz.t5.desc, Tryz.t243⟩ (.node 242 ⟨Tryz.t5.desc, Tryz.t242⟩ .leaf .leaf) .leaf)) (.node 248 ⟨Tryz.t248.desc, Tryz.t248⟩ (.node 246 ⟨Tryz.t21.desc, Tryz.t246⟩ (.node 245 ⟨Tryz.t245.desc, Tryz.t245⟩ .leaf .leaf) (.node 247 ⟨Tryz.t21.desc, Tryz.t247⟩ .leaf .leaf)) (.node 250 ⟨Tryz.t250.desc, Tryz.t250⟩ (.node 249 ⟨Tryz.t248.desc, Tryz.t249⟩ .leaf .leaf) .leaf)))))))
instance tabOk : TabOk Tryz.prog tab := ⟨⟨tab128, ⟨tab64, ⟨tab30, ⟨tab15, ⟨tab8, ⟨tab4, ⟨tab2, ⟨tab1, trivial, trivial⟩, ⟨tab3, trivial, trivial⟩⟩, ⟨tab6, ⟨tab5, trivial, trivial⟩, ⟨tab7, trivial, trivial⟩⟩⟩, ⟨tab12, ⟨tab10, ⟨tab9, trivial, trivial⟩, ⟨tab11, trivial, trivial⟩⟩, ⟨tab14, ⟨tab13, trivial, trivial⟩, trivial⟩⟩⟩, ⟨tab22, ⟨tab19, ⟨tab17, ⟨tab16, trivial, trivial⟩, ⟨tab18, trivial, trivial⟩⟩, ⟨tab21, ⟨tab20, trivial, trivial⟩, trivial⟩⟩, ⟨tab26, ⟨tab24, ⟨tab23, trivial, trivial⟩, ⟨tab25, trivial, trivial⟩⟩, ⟨tab29, ⟨tab28, trivial, trivial⟩, trivial⟩⟩⟩⟩, ⟨tab48, ⟨tab40, ⟨tab35, ⟨tab32, ⟨tab31, trivial, trivial⟩, ⟨tab34, trivial, trivial⟩⟩, ⟨tab38, ⟨tab37, trivial, trivial⟩, ⟨tab39, trivial, trivial⟩⟩⟩, ⟨tab45, ⟨tab43, ⟨tab41, trivial, trivial⟩, ⟨tab44, trivial, trivial⟩⟩, ⟨tab47, ⟨tab46, trivial, trivial⟩, trivial⟩⟩⟩, ⟨tab55, ⟨tab52, ⟨tab50, ⟨tab49, trivial, trivial⟩, ⟨tab51, trivial, trivial⟩⟩, ⟨tab54, ⟨tab53, trivial, trivial⟩, trivial⟩⟩, ⟨tab60, ⟨tab57, ⟨tab56, trivial, trivial⟩, ⟨tab59, trivial, trivial⟩⟩, ⟨tab62, ⟨tab61, trivial, trivial⟩, trivial⟩⟩⟩⟩⟩, ⟨tab95, ⟨tab80, ⟨tab73, ⟨tab68, ⟨tab66, ⟨tab65, trivial, trivial⟩, ⟨tab67, trivial, trivial⟩⟩, ⟨tab70, ⟨tab69, trivial, trivial⟩, ⟨tab71, trivial, trivial⟩⟩⟩, ⟨tab77, ⟨tab75, ⟨tab74, trivial, trivial⟩, ⟨tab76, trivial, trivial⟩⟩, ⟨tab79, ⟨tab78, trivial, trivial⟩, trivial⟩⟩⟩, ⟨tab88, ⟨tab84, ⟨tab82, ⟨tab81, trivial, trivial⟩, ⟨tab83, trivial, trivial⟩⟩, ⟨tab87, ⟨tab85, trivial, trivial⟩, trivial⟩⟩, ⟨tab92, ⟨tab90, ⟨tab89, trivial, trivial⟩, ⟨tab91, trivial, trivial⟩⟩, ⟨tab94, ⟨tab93, trivial, trivial⟩, trivial⟩⟩⟩⟩, ⟨tab113, ⟨tab104, ⟨tab100, ⟨tab98, ⟨tab97, trivial, trivial⟩, ⟨tab99, trivial, trivial⟩⟩, ⟨tab103, ⟨tab101, trivial, trivial⟩, trivial⟩⟩, ⟨tab110, ⟨tab107, ⟨tab105, trivial, trivial⟩, ⟨tab109, trivial, trivial⟩⟩, ⟨tab112, ⟨tab111, trivial, trivial⟩, trivial⟩⟩⟩, ⟨tab120, ⟨tab117, ⟨tab115, ⟨tab114, trivial, trivial⟩, ⟨tab116, trivial, trivial⟩⟩, ⟨tab119, ⟨tab118, trivial, trivial⟩, trivial⟩⟩, ⟨tab125, ⟨tab122, ⟨tab121, trivial, trivial⟩, ⟨tab123, trivial, trivial⟩⟩, ⟨tab127, ⟨tab126, trivial, trivial⟩, trivial⟩⟩⟩⟩⟩⟩, ⟨tab190, ⟨tab160, ⟨tab145, ⟨tab136, ⟨tab132, ⟨tab130, ⟨tab129, trivial, trivial⟩, ⟨tab131, trivial, trivial⟩⟩, ⟨tab134, ⟨tab133, trivial, trivial⟩, ⟨tab135, trivial, trivial⟩⟩⟩, ⟨tab142, ⟨tab139, ⟨tab138, trivial, trivial⟩, ⟨tab141, trivial, trivial⟩⟩, ⟨tab144, ⟨tab143, trivial, trivial⟩, trivial⟩⟩⟩, ⟨tab152, ⟨tab149, ⟨tab147, ⟨tab146, trivial, trivial⟩, ⟨tab148, trivial, trivial⟩⟩, ⟨tab151, ⟨tab150, trivial, trivial⟩, trivial⟩⟩, ⟨tab157, ⟨tab154, ⟨tab153, trivial, trivial⟩, ⟨tab155, trivial, trivial⟩⟩, ⟨tab159, ⟨tab158, trivial, trivial⟩, trivial⟩⟩⟩⟩, ⟨tab174, ⟨tab167, ⟨tab164, ⟨tab162, ⟨tab161, trivial, trivial⟩, ⟨tab163, trivial, trivial⟩⟩, ⟨tab166, ⟨tab165, trivial, trivial⟩, trivial⟩⟩, ⟨tab171, ⟨tab169, ⟨tab168, trivial, trivial⟩, ⟨tab170, trivial, trivial⟩⟩, ⟨tab173, ⟨tab172, trivial, trivial⟩, trivial⟩⟩⟩, ⟨tab182, ⟨tab179, ⟨tab177, ⟨tab176, trivial, trivial⟩, ⟨tab178, trivial, trivial⟩⟩, ⟨tab181, ⟨tab180, trivial, trivial⟩, trivial⟩⟩, ⟨tab187, ⟨tab184, ⟨tab183, trivial, trivial⟩, ⟨tab186, trivial, trivial⟩⟩, ⟨tab189, ⟨tab188, trivial, trivial⟩, trivial⟩⟩⟩⟩⟩, ⟨tab222, ⟨tab207, ⟨tab198, ⟨tab194, ⟨tab192, ⟨tab191, trivial, trivial⟩, ⟨tab193, trivial, trivial⟩⟩, ⟨tab196, ⟨tab195, trivial, trivial⟩, ⟨tab197, trivial, trivial⟩⟩⟩, ⟨tab203, ⟨tab200, ⟨tab199, trivial, trivial⟩, ⟨tab202, trivial, trivial⟩⟩, ⟨tab206, ⟨tab204, trivial, trivial⟩, trivial⟩⟩⟩, ⟨tab214, ⟨tab211, ⟨tab209, ⟨tab208, trivial, trivial⟩, ⟨tab210, trivial, trivial⟩⟩, ⟨tab213, ⟨tab212, trivial, trivial⟩, trivial⟩⟩, ⟨tab219, ⟨tab217, ⟨tab215, trivial, trivial⟩, ⟨tab218, trivial, trivial⟩⟩, ⟨tab221, ⟨tab220, trivial, trivial⟩, trivial⟩⟩⟩⟩, ⟨tab237, ⟨tab229, ⟨tab226, ⟨tab224, ⟨tab223, trivial, trivial⟩, ⟨tab225, trivial, trivial⟩⟩, ⟨tab228, ⟨tab227, trivial, trivial⟩, trivial⟩⟩, ⟨tab234, ⟨tab231, ⟨tab230, trivial, trivial⟩, ⟨tab232, trivial, trivial⟩⟩, ⟨tab236, ⟨tab235, trivial, trivial⟩, trivial⟩⟩⟩, ⟨tab244, ⟨tab241, ⟨tab239, ⟨tab238, trivial, trivial⟩, ⟨tab240, trivial, trivial⟩⟩, ⟨tab243, ⟨tab242, trivial, trivial⟩, trivial⟩⟩, ⟨tab248, ⟨tab246, ⟨tab245, trivial, trivial⟩, ⟨tab247, trivial, trivial⟩⟩, ⟨tab250, ⟨tab249, trivial, trivial⟩, trivial⟩⟩⟩⟩⟩⟩⟩⟩
theorem mixed : Tryz.prog.follows .mixedOrders = true := by kernel_rfl
theorem go {A B : Prop} (a : A) (h : Hold A → B := by (intro h; (repeat' (first | refine J_adv (U := tab) rfl ?_ | (refine J_isG ?_; first | refine J_guardT rfl rfl rfl rfl ?_ | refine J_guardF rfl rfl rfl rfl rfl rfl rfl ?_ | refine J_guardU rfl rfl rfl rfl rfl rfl ?_ | refine J_guardF0 rfl rfl rfl rfl rfl rfl ?_) | (refine J_isLoad ?_; first | refine J_load (U := tab) 0 rfl rfl rfl rfl rfl rfl ?_ | refine J_load (U := tab) 1 rfl rfl rfl rfl rfl rfl ?_ | refine J_load (U := tab) 2 rfl rfl rfl rfl rfl rfl ?_ | refine J_load (U := tab) 3 rfl rfl rfl rfl rfl rfl ?_ | refine J_load (U := tab) 4 rfl rfl rfl rfl rfl rfl ?_ | refine J_load (U := tab) 5 rfl rfl rfl rfl rfl rfl ?_ | refine J_loadH (U := tab) 0 rfl rfl rfl rfl rfl rfl ?_ | refine J_loadH (U := tab) 1 rfl rfl rfl rfl rfl rfl ?_ | refine J_loadH (U := tab) 2 rfl rfl rfl rfl rfl rfl ?_) | (refine J_isPick ?_; first | refine J_pickT rfl rfl rfl ?_ | refine J_pickF rfl rfl rfl ?_) | (refine J_isBin ?_; first | refine J_add rfl rfl rfl (by simp only [inK]; omega) ?_ | refine J_sub' rfl rfl rfl (by simp only [inK]; omega) ?_) | (refine J_isConv ?_; refine J_conv (U := tab) rfl rfl rfl rfl rfl rfl (by simp only [inK]; omega) ?_) | (refine J_isStore ?_; first | refine J_store (U := tab) 0 (fun _ _ => trivial) rfl rfl rfl rfl rfl rfl rfl rfl rfl ?_ | refine J_store (U := tab) 1 (fun _ _ => trivial) rfl rfl rfl rfl rfl rfl rfl rfl rfl ?_ | refine J_store (U := tab) 2 (fun _ _ => trivial) rfl rfl rfl rfl rfl rfl rfl rfl rfl ?_ | refine J_store (U := tab) 3 (fun _ _ => trivial) rfl rfl rfl rfl rfl rfl rfl rfl rfl ?_) | refine J_end ?_ | refine K_regionA rfl ?_ | refine K_condT rfl rfl ?_ | refine K_condF rfl rfl ?_)); exact h.out)) : B := h ⟨a⟩
theorem go1 {A B : Prop} (a : A) (h : Hold A → B := by (intro h; (first | refine J_adv (U := tab) rfl ?_ | (refine J_isG ?_; first | refine J_guardT rfl rfl rfl rfl ?_ | refine J_guardF rfl rfl rfl rfl rfl rfl rfl ?_ | refine J_guardU rfl rfl rfl rfl rfl rfl ?_ | refine J_guardF0 rfl rfl rfl rfl rfl rfl ?_) | (refine J_isLoad ?_; first | refine J_load (U := tab) 0 rfl rfl rfl rfl rfl rfl ?_ | refine J_load (U := tab) 1 rfl rfl rfl rfl rfl rfl ?_ | refine J_load (U := tab) 2 rfl rfl rfl rfl rfl rfl ?_ | refine J_load (U := tab) 3 rfl rfl rfl rfl rfl rfl ?_ | refine J_load (U := tab) 4 rfl rfl rfl rfl rfl rfl ?_ | refine J_load (U := tab) 5 rfl rfl rfl rfl rfl rfl ?_ | refine J_loadH (U := tab) 0 rfl rfl rfl rfl rfl rfl ?_ | refine J_loadH (U := tab) 1 rfl rfl rfl rfl rfl rfl ?_ | refine J_loadH (U := tab) 2 rfl rfl rfl rfl rfl rfl ?_) | (refine J_isPick ?_; first | refine J_pickT rfl rfl rfl ?_ | refine J_pickF rfl rfl rfl ?_) | (refine J_isBin ?_; first | refine J_add rfl rfl rfl (by simp only [inK]; omega) ?_ | refine J_sub' rfl rfl rfl (by simp only [inK]; omega) ?_) | (refine J_isConv ?_; refine J_conv (U := tab) rfl rfl rfl rfl rfl rfl (by simp only [inK]; omega) ?_) | (refine J_isStore ?_; first | refine J_store (U := tab) 0 (fun _ _ => trivial) rfl rfl rfl rfl rfl rfl rfl rfl rfl ?_ | refine J_store (U := tab) 1 (fun _ _ => trivial) rfl rfl rfl rfl rfl rfl rfl rfl rfl ?_ | refine J_store (U := tab) 2 (fun _ _ => trivial) rfl rfl rfl rfl rfl rfl rfl rfl rfl ?_ | refine J_store (U := tab) 3 (fun _ _ => trivial) rfl rfl rfl rfl rfl rfl rfl rfl rfl ?_) | refine J_end ?_ | refine K_regionA rfl ?_ | refine K_condT rfl rfl ?_ | refine K_condF rfl rfl ?_); (repeat' (first | refine J_adv (U := tab) rfl ?_ | (refine J_isG ?_; first | refine J_guardT rfl rfl rfl rfl ?_ | refine J_guardF rfl rfl rfl rfl rfl rfl rfl ?_ | refine J_guardU rfl rfl rfl rfl rfl rfl ?_ | refine J_guardF0 rfl rfl rfl rfl rfl rfl ?_) | (refine J_isLoad ?_; first | refine J_load (U := tab) 0 rfl rfl rfl rfl rfl rfl ?_ | refine J_load (U := tab) 1 rfl rfl rfl rfl rfl rfl ?_ | refine J_load (U := tab) 2 rfl rfl rfl rfl rfl rfl ?_ | refine J_load (U := tab) 3 rfl rfl rfl rfl rfl rfl ?_ | refine J_load (U := tab) 4 rfl rfl rfl rfl rfl rfl ?_ | refine J_load (U := tab) 5 rfl rfl rfl rfl rfl rfl ?_ | refine J_loadH (U := tab) 0 rfl rfl rfl rfl rfl rfl ?_ | refine J_loadH (U := tab) 1 rfl rfl rfl rfl rfl rfl ?_ | refine J_loadH (U := tab) 2 rfl rfl rfl rfl rfl rfl ?_) | (refine J_isPick ?_; first | refine J_pickT rfl rfl rfl ?_ | refine J_pickF rfl rfl rfl ?_) | (refine J_isBin ?_; first | refine J_add rfl rfl rfl (by simp only [inK]; omega) ?_ | refine J_sub' rfl rfl rfl (by simp only [inK]; omega) ?_) | (refine J_isConv ?_; refine J_conv (U := tab) rfl rfl rfl rfl rfl rfl (by simp only [inK]; omega) ?_) | (refine J_isStore ?_; first | refine J_store (U := tab) 0 (fun _ _ => trivial) rfl rfl rfl rfl rfl rfl rfl rfl rfl ?_ | refine J_store (U := tab) 1 (fun _ _ => trivial) rfl rfl rfl rfl rfl rfl rfl rfl rfl ?_ | refine J_store (U := tab) 2 (fun _ _ => trivial) rfl rfl rfl rfl rfl rfl rfl rfl rfl ?_ | refine J_store (U := tab) 3 (fun _ _ => trivial) rfl rfl rfl rfl rfl rfl rfl rfl rfl ?_) | refine J_end ?_ | refine K_regionA rfl ?_ | refine K_condT rfl rfl ?_ | refine K_condF rfl rfl ?_)); exact h.out)) : B := h ⟨a⟩
theorem goR {A B : Prop} (a : A) (h : Hold A → B := by (intro h; (repeat' (first | refine J_adv (U := tab) rfl ?_ | (refine J_isG ?_; first | refine J_guardT rfl rfl rfl rfl ?_ | refine J_guardF rfl rfl rfl rfl rfl rfl rfl ?_ | refine J_guardU rfl rfl rfl rfl rfl rfl ?_ | refine J_guardF0 rfl rfl rfl rfl rfl rfl ?_) | (refine J_isLoad ?_; first | refine J_load (U := tab) 0 rfl rfl rfl rfl rfl rfl ?_ | refine J_load (U := tab) 1 rfl rfl rfl rfl rfl rfl ?_ | refine J_load (U := tab) 2 rfl rfl rfl rfl rfl rfl ?_ | refine J_load (U := tab) 3 rfl rfl rfl rfl rfl rfl ?_ | refine J_load (U := tab) 4 rfl rfl rfl rfl rfl rfl ?_ | refine J_load (U := tab) 5 rfl rfl rfl rfl rfl rfl ?_ | refine J_loadH (U := tab) 0 rfl rfl rfl rfl rfl rfl ?_ | refine J_loadH (U := tab) 1 rfl rfl rfl rfl rfl rfl ?_ | refine J_loadH (U := tab) 2 rfl rfl rfl rfl rfl rfl ?_) | (refine J_isPick ?_; first | refine J_pickT rfl rfl rfl ?_ | refine J_pickF rfl rfl rfl ?_) | (refine J_isBin ?_; first | refine J_add rfl rfl rfl (by simp only [inK]; omega) ?_ | refine J_sub' rfl rfl rfl (by simp only [inK]; omega) ?_) | (refine J_isConv ?_; refine J_conv (U := tab) rfl rfl rfl rfl rfl rfl (by simp only [inK]; omega) ?_) | (refine J_isStore ?_; first | refine J_store (U := tab) 0 (fun _ _ => trivial) rfl rfl rfl rfl rfl rfl rfl rfl rfl ?_ | refine J_store (U := tab) 1 (fun _ _ => trivial) rfl rfl rfl rfl rfl rfl rfl rfl rfl ?_ | refine J_store (U := tab) 2 (fun _ _ => trivial) rfl rfl rfl rfl rfl rfl rfl rfl rfl ?_ | refine J_store (U := tab) 3 (fun _ _ => trivial) rfl rfl rfl rfl rfl rfl rfl rfl rfl ?_) | refine J_end ?_)); exact h.out)) : B := h ⟨a⟩
end Go.Proofs.YtpecmnaikjbanaaGreatDoor

/- tlv, part 0: bytes that are seen. -/
set_option linter.unusedVariables false
set_option linter.unusedSimpArgs false
namespace Go.Proofs.YtpecmnaikjbanaaGreatDoor
open Go Go.SL
theorem bV_at {A : HP} {v : Value} {bs : List UInt8} (hv : Vw A v bs.length (bV bs)) (h : 0 < bs.length) : ∃ b o c, v = .slice (some ⟨b, o, none⟩) bs.length c := hv.some (by cases bs with
  | nil => simp at h
  | cons x l => simp [bV])
theorem bV_getD {bs : List UInt8} {i : Nat} (h : i < bs.length) : (bV bs)[i]? = some (u8 (bs.getD i 0)) := by
  rw [List.getD_eq_getElem?_getD]
  simp [bV, h]
theorem shl_slot {x q : Nat} (y : Nat) (h : x * 2 ^ (min q 64) = y) (hy : y < 9223372036854775808) : Value.int .i64 (IntKind.i64.wrap ((x : Int) * 2 ^ (min ((q : Int).toNat) IntKind.i64.bits))) = .int .i64 (y : Int) := by
  have e : (x : Int) * 2 ^ (min ((q : Int).toNat) IntKind.i64.bits) = (y : Int) := by
    show (x : Int) * 2 ^ (min q 64) = _
    rw [← h]; push_cast; rfl
  rw [e, wrap_in (by simp only [inK]; omega)]
end Go.Proofs.YtpecmnaikjbanaaGreatDoor

/- journal, plain: numbers in groups of seven bits. Nothing here names a program. -/
set_option linter.unusedVariables false
set_option linter.unusedSimpArgs false
namespace Go.SL
/-- A number in groups of seven bits, the least first. -/
def uv (n : Nat) : List UInt8 := if n < 128 then [UInt8.ofNat n] else UInt8.ofNat (n % 128 + 128) :: uv (n / 128)
termination_by n
decreasing_by omega
theorem uv_small {n : Nat} (h : n < 128) : uv n = [UInt8.ofNat n] := by rw [uv, if_pos h]
theorem uv_big {n : Nat} (h : ¬ n < 128) : uv n = UInt8.ofNat (n % 128 + 128) :: uv (n / 128) := by rw [uv, if_neg h]
theorem uv_len : ∀ (k n : Nat), n < 128 ^ (k + 1) → (uv n).length ≤ k + 1
  | 0, n, h => by rw [uv_small (by simpa using h)]; simp
  | k + 1, n, h => by
    by_cases hn : n < 128
    · rw [uv_small hn]; simp
    · rw [uv_big hn, List.length_cons]
      have := uv_len k (n / 128) (Nat.div_lt_of_lt_mul (by rw [Nat.pow_succ, Nat.mul_comm] at h; exact h))
      omega
theorem uv_len10 {n : Nat} (h : n < 18446744073709551616) : (uv n).length ≤ 10 := uv_len 9 n (Nat.lt_of_lt_of_le h (by decide))
theorem uv_pos (n : Nat) : 0 < (uv n).length := by
  by_cases h : n < 128
  · rw [uv_small h]; simp
  · rw [uv_big h]; simp
theorem conv8 (m : Nat) : Value.int .u8 (IntKind.u8.wrap (m : Int)) = .int .u8 ((m % 256 : Nat) : Int) := by
  have h : IntKind.u8.wrap (m : Int) = (m : Int) % 256 := by simp [IntKind.wrap, IntKind.bits, IntKind.signed]
  rw [h]; congr 1
theorem more_u8 (m : Nat) : Value.int .u8 (IntKind.u8.wrap ((BitVec.ofInt IntKind.u8.bits ((m % 256 : Nat) : Int) ||| BitVec.ofInt IntKind.u8.bits 128).toNat : Int)) = u8 (UInt8.ofNat (m % 128 + 128)) := by
  rw [or128_u8 _ (by omega)]
  simp only [u8, UInt8.toNat_ofNat']
  congr 1
  omega
/-- What bytes begin with: a number, what is behind, whether it is as short as may be. -/
def cutL : Nat → Nat → List UInt8 → Option (Nat × List UInt8 × Bool)
  | _, _, [] => none
  | i, acc, c :: r => if i = 10 ∨ (i = 9 ∧ 1 < c.toNat) then none else if c.toNat < 128 then some (acc + c.toNat * 2 ^ (7 * i), r, decide (i = 0 ∨ 0 < c.toNat)) else cutL (i + 1) (acc + (c.toNat % 128) * 2 ^ (7 * i)) r
def cutA (bs : List UInt8) : Nat × List UInt8 × Bool := (cutL 0 0 bs).getD (0, [], false)
def toUintA (bs : List UInt8) : Option Nat := if (cutA bs).2.2 = true ∧ (cutA bs).2.1 = [] then some (cutA bs).1 else none
theorem step_lt {i acc c : Nat} (ha : acc < 2 ^ (7 * i)) (hc : c < 128) : acc + c * 2 ^ (7 * i) < 2 ^ (7 * (i + 1)) := by
  have h1 : acc + c * 2 ^ (7 * i) < (c + 1) * 2 ^ (7 * i) := by rw [Nat.add_mul, Nat.one_mul]; omega
  have h2 : (c + 1) * 2 ^ (7 * i) ≤ 128 * 2 ^ (7 * i) := Nat.mul_le_mul_right _ (by omega)
  have h3 : 2 ^ (7 * (i + 1)) = 128 * 2 ^ (7 * i) := by rw [show 7 * (i + 1) = 7 * i + 7 from by omega, Nat.pow_add, Nat.mul_comm]
  omega
theorem step_64 {i acc c : Nat} (hi : i ≤ 9) (ha : acc < 2 ^ (7 * i)) (hc : c < 128) (h9 : i = 9 → c ≤ 1) : acc + c * 2 ^ (7 * i) < 18446744073709551616 := by
  by_cases h : i = 9
  · subst h
    have := h9 rfl
    have h63 : (2 : Nat) ^ (7 * 9) = 9223372036854775808 := by decide
    rw [h63] at ha ⊢
    have : c * 9223372036854775808 ≤ 1 * 9223372036854775808 := Nat.mul_le_mul_right _ this
    omega
  · have h1 := step_lt ha hc
    have h2 : 2 ^ (7 * (i + 1)) ≤ 2 ^ 63 := Nat.pow_le_pow_right (by omega) (by omega)
    omega
theorem cutL_uv : ∀ (k n i acc : Nat) (rest : List UInt8), n < 128 ^ (k + 1) → i + k ≤ 8 → (i ≠ 0 → n ≠ 0) → cutL i acc (uv n ++ rest) = some (acc + n * 2 ^ (7 * i), rest, true)
  | k, n, i, acc, rest, hn, hik, h0 => by
    by_cases h : n < 128
    · rw [uv_small h]
      have e : (UInt8.ofNat n).toNat = n := by simp only [UInt8.toNat_ofNat']; omega
      simp only [List.cons_append, List.nil_append, cutL, e]
      rw [if_neg (by omega), if_pos h]
      have : (i = 0 ∨ 0 < n) := by
        by_cases hi : i = 0
        · exact .inl hi
        · exact .inr (by have := h0 hi; omega)
      rw [decide_eq_true this]
    · cases k with
      | zero => simp at hn; omega
      | succ k =>
        rw [uv_big h]
        have e : (UInt8.ofNat (n % 128 + 128)).toNat = n % 128 + 128 := by simp only [UInt8.toNat_ofNat']; omega
        simp only [List.cons_append, cutL, e]
        rw [if_neg (by omega), if_neg (by omega), show (n % 128 + 128) % 128 = n % 128 from by omega,
          cutL_uv k (n / 128) (i + 1) _ rest (Nat.div_lt_of_lt_mul (by rw [Nat.pow_succ, Nat.mul_comm] at hn; exact hn)) (by omega) (by intro _; omega)]
        have h3 : n / 128 * 2 ^ (7 * (i + 1)) = n / 128 * 128 * 2 ^ (7 * i) := by rw [show 7 * (i + 1) = 7 + 7 * i from by omega, Nat.pow_add, Nat.mul_assoc]
        have h4 : n % 128 * 2 ^ (7 * i) + n / 128 * 128 * 2 ^ (7 * i) = n * 2 ^ (7 * i) := by rw [← Nat.add_mul]; congr 1; omega
        rw [h3, Nat.add_assoc, h4]
theorem cutA_uv {n : Nat} (h : n < 9223372036854775808) (rest : List UInt8) : cutA (uv n ++ rest) = (n, rest, true) := by
  unfold cutA
  rw [cutL_uv 8 n 0 0 rest (Nat.lt_of_lt_of_le h (by decide)) (by omega) (by intro h; exact absurd rfl h)]
  simp
theorem toUint_uv {n : Nat} (h : n < 9223372036854775808) : toUintA (uv n) = some n := by
  have := cutA_uv h []
  rw [List.append_nil] at this
  unfold toUintA
  rw [this]; simp
/-- How long the number is that bytes begin with, and which it is, if it has two bytes at most. -/
def longA (bs : List UInt8) : Option (Nat × Nat) :=
  if 1 ≤ bs.length then match toUintA (bs.take 1) with
    | some n => some (1, n)
    | none => if 2 ≤ bs.length then (toUintA (bs.take 2)).map fun n => (2, n) else none
  else none
theorem toUint_small {bs : List UInt8} {n : Nat} (h : toUintA bs = some n) (hl : bs.length ≤ 2) : n < 16384 := by
  unfold toUintA cutA at h
  split at h
  · rename_i hh
    cases h
    match bs, hl with
    | [], _ => simp [cutL] at hh
    | [a], _ =>
      by_cases ha : a.toNat < 128
      · simp [cutL, ha]; omega
      · simp [cutL, ha] at hh
    | [a, b], _ =>
      by_cases ha : a.toNat < 128
      · simp [cutL, ha]; omega
      · by_cases hb : b.toNat < 128
        · simp [cutL, ha, hb]; omega
        · simp [cutL, ha, hb] at hh
  · cases h
end Go.SL

/- journal, part b: tlv's numbers; encoded; long. -/
set_option linter.unusedVariables false
set_option linter.unusedSimpArgs false
namespace Go.Proofs.YtpecmnaikjbanaaGreatDoor
open Go Go.SL
attribute [local irreducible] J K Ctr Ends pts slc mapR mapI sbRow stock arrS loopP

theorem Uint_any (n : Nat) (h : n < 18446744073709551616) : Ctr Tryz.prog 115 [.int .u64 (n : Int)] [] (fun r H => H = [slc 5 1 r (uv n).length (bV (uv n))]) := by
  refine Ctr.enter Tryz.func115 (by kernel_rfl) rfl Tryz.ntmps115 rfl rfl ?_
  intro G F R hE
  (refine go ?_)
  (first | refine K_ent (slc_lift 5 1 none _) ?_ | refine J_ent (slc_lift 5 1 none _) ?_)
  have hu10 := uv_len10 h
  refine K_loop (fun s : Nat × List UInt8 × Value => s.2.1 ++ uv s.1 = uv n ∧ s.1 ≤ n) (fun s => s.1)
    (fun s => [(0, .int .u64 (s.1 : Int)), (3, s.2.2)])
    (fun s => slc 5 1 s.2.2 s.2.1.length (bV s.2.1) :: F) (n, [], .slice none 0 0) ⟨rfl, Nat.le_refl _⟩ rfl (by repeat (first | exact keep_nil | refine keep_cons rfl ?_)) entA ?_
  rintro ⟨m, done, v⟩ ⟨hm, hmn⟩ ih
  simp only at hm hmn
  have hlen : done.length + (uv m).length ≤ 10 := by rw [← List.length_append, hm]; exact hu10
  have hpos := uv_pos m
  (first | refine J_shape 0 rfl ?_ | refine K_shape 0 rfl ?_)
  rintro va vc hve
  simp only at hve
  subst hve
  (refine go ?_)
  refine K_condP rfl rfl ?_ ?_
  · intro hge
    simp only at hge
    have hbig : ¬ m < 128 := by omega
    (refine go ?_)
    refine J_convW (U := tab) rfl rfl rfl rfl rfl rfl ?_
    refine J_slot 10 (.int .u8 ((m % 256 : Nat) : Int)) rfl (conv8 m) ?_
    (refine go ?_)
    refine J_slot 11 (u8 (UInt8.ofNat (m % 128 + 128))) rfl (more_u8 m) ?_
    refine J_buildSlice1 (U := tab) (cs := bV [UInt8.ofNat (m % 128 + 128)]) rfl rfl rfl rfl rfl rfl rfl rfl rfl (fun _ _ _ => trivial) ?_
    intro b1
    refine J_append (U := tab) (mm := 1) (news := bV [UInt8.ofNat (m % 128 + 128)]) 1 0 rfl rfl rfl rfl rfl rfl rfl rfl rfl rfl rfl rfl (Vw.pts rfl) rfl (bV_one _) (by simp only; omega) (by show (_ + 1) * 1 ≤ _; simp only; omega) (fun _ => rfl) (fun _ _ _ => trivial) ?_
    intro v1
    rw [show bV done ++ bV [UInt8.ofNat (m % 128 + 128)] = bV (done ++ [UInt8.ofNat (m % 128 + 128)]) from by simp [bV], show done.length + 1 = (done ++ [UInt8.ofNat (m % 128 + 128)]).length from by simp]
    (first | refine J_shape 1 rfl ?_ | refine K_shape 1 rfl ?_)
    rintro wa wc rfl
    (refine go ?_)
    refine J_shr rfl rfl rfl (by omega) ?_
    refine J_slot 7 (.int .u64 ((m / 128 : Nat) : Int)) rfl (congrArg (Value.int .u64) (by show (m : Int) / 128 = _; omega)) ?_
    (refine go ?_)
    refine K_again ih (m / 128, done ++ [UInt8.ofNat (m % 128 + 128)], _) rfl ⟨by simp only [List.append_assoc, List.singleton_append]; rw [← uv_big hbig]; exact hm, by simp only; omega⟩ (by simp only; omega) (by repeat (first | exact keep_nil | refine keep_cons rfl ?_)) entA
  · intro hlt
    simp only at hlt
    have hsm : m < 128 := by omega
    (refine go ?_)
    refine J_slot 16 (u8 (UInt8.ofNat m)) rfl (by simp only [u8, UInt8.toNat_ofNat']; congr 1; omega) ?_
    refine J_buildSlice1 (U := tab) (cs := bV [UInt8.ofNat m]) rfl rfl rfl rfl rfl rfl rfl rfl rfl (fun _ _ _ => trivial) ?_
    intro b1
    refine J_append (U := tab) (mm := 1) (news := bV [UInt8.ofNat m]) 1 0 rfl rfl rfl rfl rfl rfl rfl rfl rfl rfl rfl rfl (Vw.pts rfl) rfl (bV_one _) (by simp only; omega) (by show (_ + 1) * 1 ≤ _; simp only; omega) (fun _ => rfl) (fun _ _ _ => trivial) ?_
    intro v1
    rw [show bV done ++ bV [UInt8.ofNat m] = bV (uv n) from by rw [← hm, uv_small hsm]; simp [bV], show done.length + 1 = (uv n).length from by rw [← hm, uv_small hsm]; simp]
    (refine go ?_)
    (first | refine K_return hE Tryz.func115 rfl _ rfl rfl entA | refine K_fallEnd hE Tryz.func115 rfl _ rfl rfl entA)
theorem shlU_slot {x q y : Nat} (hq : q ≤ 64) (h : x * 2 ^ q = y) (hy : y < 18446744073709551616) : Value.int .u64 (IntKind.u64.wrap ((x : Int) * 2 ^ (min ((q : Int).toNat) IntKind.u64.bits))) = .int .u64 (y : Int) := by
  have e : (x : Int) * 2 ^ (min ((q : Int).toNat) IntKind.u64.bits) = (y : Int) := by
    show (x : Int) * 2 ^ (min q 64) = _
    rw [Nat.min_eq_left hq, ← h]; push_cast; rfl
  rw [e, wrap_in (by simp only [inK]; omega)]
theorem nilVw (A : HP) : Vw A (.slice none 0 0) ([] : List UInt8).length (bV []) := ⟨none, 0, rfl, .inl rfl⟩
set_option maxRecDepth 20000 in
theorem cut_any (A : HP) (v : Value) (bs : List UInt8) (hv : Vw A v bs.length (bV bs)) (hcap : ∃ a c, v = .slice a bs.length c ∧ bs.length ≤ c) (hl : bs.length ≤ 9223372036854775807) :
    Ctr Tryz.prog 186 [v] [A] (fun r H => ∃ rv, r = .tuple #[.int .u64 ((cutA bs).1 : Int), rv, .bool (cutA bs).2.2] ∧ (Vw A rv (cutA bs).2.1.length (bV (cutA bs).2.1) ∧ ∃ a c, rv = .slice a (cutA bs).2.1.length c ∧ (cutA bs).2.1.length ≤ c) ∧ H = [A]) := by
  obtain ⟨a0, c0, rfl, hc0⟩ := hcap
  refine Ctr.enter Tryz.func186 (by kernel_rfl) rfl Tryz.ntmps186 rfl rfl ?_
  intro G F R hE
  (refine go ?_)
  refine K_loop (fun s : Nat × Nat => s.1 ≤ bs.length ∧ s.1 ≤ 10 ∧ (s.1 ≤ 9 → s.2 < 2 ^ (7 * s.1)) ∧ cutL 0 0 bs = cutL s.1 s.2 (bs.drop s.1)) (fun s => bs.length - s.1)
    (fun s => [(0, .slice a0 bs.length c0), (5, .int .u64 (s.2 : Int)), (8, .slice a0 bs.length c0), (9, .int .i64 bs.length), (10, .int .i64 s.1)])
    (fun _ => A :: F) (0, 0) ⟨Nat.zero_le _, by omega, by simp, by simp⟩ rfl (by repeat (first | exact keep_nil | refine keep_cons rfl ?_)) entA ?_
  rintro ⟨i, acc⟩ ⟨hi, hi10, hacc, hcut⟩ ih
  simp only at hi hi10 hacc hcut
  (refine go ?_)
  refine K_condP rfl rfl ?_ ?_
  case' refine_2 =>
    intro hge
    simp only at hge
    have hnil : cutA bs = (0, [], false) := by
      unfold cutA; rw [hcut, List.drop_eq_nil_of_le (by omega)]; simp [cutL]
    (refine go ?_)
    rw [hnil] at hE
    (first | refine K_return hE Tryz.func186 rfl _ rfl ⟨_, rfl, ⟨nilVw A, none, 0, rfl, Nat.le_refl _⟩, rfl⟩ entA | refine K_fallEnd hE Tryz.func186 rfl _ rfl ⟨_, rfl, ⟨nilVw A, none, 0, rfl, Nat.le_refl _⟩, rfl⟩ entA)
  intro hlt
  simp only at hlt
  have hi' : i < bs.length := by omega
  obtain ⟨ba, oa, ca, hsl⟩ := bV_at hv (by omega)
  simp only [Value.slice.injEq, true_and] at hsl
  obtain ⟨rfl, rfl⟩ := hsl
  obtain ⟨c, hc⟩ : ∃ c, bs[i]? = some c := ⟨bs[i], by simp⟩
  have hdr : bs.drop i = c :: bs.drop (i + 1) := by
    rw [List.drop_eq_getElem_cons hi']; congr 1
    rw [List.getElem?_eq_getElem hi'] at hc; exact Option.some.inj hc
  have hc256 : c.toNat < 256 := c.toNat_lt
  rw [hdr] at hcut
  simp only [cutL] at hcut
  (refine go ?_)
  refine J_at1 (U := tab) i rfl rfl rfl rfl rfl rfl rfl rfl hi' ?_
  refine J_loadAt (U := tab) 0 i rfl rfl rfl hv rfl (bV_get hc) rfl rfl ?_
  repeat' (first | (with_reducible intro _hh) | refine go1 ?_ | refine J_fork ?_ ?_ | refine J_gsP rfl rfl rfl rfl ?_ ?_ | refine K_condP rfl rfl ?_ ?_)
  case' refine_1 =>
    have hbad : (i = 10 ∨ (i = 9 ∧ 1 < c.toNat)) := by simp only at *; omega
  case' refine_2.refine_1.refine_1 =>
    have hbad : (i = 10 ∨ (i = 9 ∧ 1 < c.toNat)) := by simp only at *; omega
  case' refine_2.refine_1.refine_2 => 
    have hgood : ¬ (i = 10 ∨ (i = 9 ∧ 1 < c.toNat)) := by simp only at *; omega
  case' refine_2.refine_2 => 
    have hgood : ¬ (i = 10 ∨ (i = 9 ∧ 1 < c.toNat)) := by simp only at *; omega
  any_goals (
    have hnil : cutA bs = (0, [], false) := by unfold cutA; rw [hcut, if_pos hbad]; rfl
    rw [hnil] at hE
    (first | refine K_return hE Tryz.func186 rfl _ rfl ⟨_, rfl, ⟨nilVw A, none, 0, rfl, Nat.le_refl _⟩, rfl⟩ entA | refine K_fallEnd hE Tryz.func186 rfl _ rfl ⟨_, rfl, ⟨nilVw A, none, 0, rfl, Nat.le_refl _⟩, rfl⟩ entA))
  all_goals (
    have hi9 : i ≤ 9 := by omega
    have hac := hacc hi9
    have hm128 : c.toNat % 128 < 128 := Nat.mod_lt _ (by omega)
    have h64 := step_64 (c := c.toNat % 128) hi9 hac hm128 (by intro h; omega)
    refine J_slot 27 (.int .u8 ((c.toNat % 128 : Nat) : Int)) rfl (congrArg (Value.int .u8) (andNot128_u8 _ hc256)) ?_
    (refine go ?_)
    refine J_mul rfl rfl rfl (by simp only [inK]; omega) ?_
    refine J_slot 30 (.int .i64 ((7 * i : Nat) : Int)) rfl (congrArg (Value.int .i64) (by simp only; omega)) ?_
    refine J_shlW rfl rfl rfl (by omega) ?_
    refine J_slot 31 (.int .u64 ((c.toNat % 128 * 2 ^ (7 * i) : Nat) : Int)) rfl (shlU_slot (by omega) rfl (by omega)) ?_
    (refine go ?_)
    refine K_slot 5 (.int .u64 ((acc + c.toNat % 128 * 2 ^ (7 * i) : Nat) : Int)) rfl (congrArg (Value.int .u64) (or_u64 hac h64)) ?_
    (refine go ?_)
    refine K_condP rfl rfl ?_ ?_
    · intro hlow
      have hcm : c.toNat % 128 = c.toNat := by omega
      have hres : cutA bs = (acc + c.toNat % 128 * 2 ^ (7 * i), bs.drop (i + 1), decide (i = 0 ∨ 0 < c.toNat)) := by
        unfold cutA; rw [hcut, if_neg hgood, if_pos (by omega), hcm]; rfl
      refine K_drawA (fun w => Sat G w ([])) (sts 0 14 .nil) rfl (by kernel_rfl) (by kernel_rfl) (by kernel_rfl) (fun w hw => hw.ent entA) ?_
      (refine go ?_)
      refine J_sliceAny (U := tab) (p := (i : Int) + 1) (q := (bs.length : Int)) rfl rfl rfl rfl rfl rfl rfl (by omega) (by omega) (.inl rfl) ?_
      refine J_slot 39 (.slice (sliceAt (some ⟨ba, oa, none⟩) c0 (i + 1) 1) (bs.drop (i + 1)).length (c0 - (i + 1))) rfl (by rw [show ((i : Int) + 1).toNat = i + 1 from by omega, show ((bs.length : Int)).toNat = bs.length from by omega, List.length_drop]; rfl) ?_
      have hvr : Vw A (.slice (sliceAt (some ⟨ba, oa, none⟩) c0 (i + 1) 1) (bs.drop (i + 1)).length (c0 - (i + 1))) (bs.drop (i + 1)).length (bV (bs.drop (i + 1))) := by
        have := hv.cutk (s := 1) (by rw [bV_length]; omega) hc0 (i + 1) (by omega)
        rw [List.length_drop, show bV (bs.drop (i + 1)) = (bV bs).drop ((i + 1) * 1) from by simp [bV, List.map_drop]]
        exact this
      rw [hres] at hE
      repeat' (first | (with_reducible intro _hh) | refine go1 ?_ | refine J_fork ?_ ?_ | refine J_gsP rfl rfl rfl rfl ?_ ?_ | refine K_condP rfl rfl ?_ ?_)
      all_goals first
        | (have hi0 : i = 0 := (by simp only at _hh; omega)
           rw [decide_eq_true (Or.inl hi0 : i = 0 ∨ 0 < c.toNat)] at hE
           (first | refine K_return hE Tryz.func186 rfl _ rfl ⟨_, rfl, ⟨hvr, _, _, rfl, by simp only [List.length_drop]; omega⟩, rfl⟩ entA | refine K_fallEnd hE Tryz.func186 rfl _ rfl ⟨_, rfl, ⟨hvr, _, _, rfl, by simp only [List.length_drop]; omega⟩, rfl⟩ entA))
        | (have hi0 : ¬ i = 0 := (by simp only at _hh; omega)
           rw [show decide (i = 0 ∨ 0 < c.toNat) = decide ((0 : Int) < (c.toNat : Int)) from decide_eq_decide.2 ⟨fun h => by omega, fun h => .inr (by omega)⟩] at hE
           (first | refine K_return hE Tryz.func186 rfl _ rfl ⟨_, rfl, ⟨hvr, _, _, rfl, by simp only [List.length_drop]; omega⟩, rfl⟩ entA | refine K_fallEnd hE Tryz.func186 rfl _ rfl ⟨_, rfl, ⟨hvr, _, _, rfl, by simp only [List.length_drop]; omega⟩, rfl⟩ entA))
    · intro hhigh
      (refine go ?_)
      refine K_again ih (i + 1, acc + c.toNat % 128 * 2 ^ (7 * i)) rfl ⟨by simp only; omega, by simp only; omega, fun _ => step_lt hac hm128, by rw [hcut, if_neg hgood, if_neg (by omega)]⟩ (by simp only; omega) (by repeat (first | exact keep_nil | refine keep_cons rfl ?_)) entA)
end Go.Proofs.YtpecmnaikjbanaaGreatDoor

/- tlv: ToUint; bytes that stand somewhere. -/
set_option linter.unusedVariables false
set_option linter.unusedSimpArgs false
namespace Go.Proofs.YtpecmnaikjbanaaGreatDoor
open Go Go.SL
attribute [local irreducible] J K Ctr Ends pts slc mapR mapI sbRow stock arrS loopP

/-- Bytes that stand somewhere in A. -/
def BAt (A : HP) (v : Value) (bs : List UInt8) : Prop := Vw A v bs.length (bV bs) ∧ ∃ a c, v = .slice a bs.length c ∧ bs.length ≤ c
theorem BAt.cut {A : HP} {a : Option Addr} {n c : Nat} {bs : List UInt8} (h : BAt A (.slice a n c) bs) (p : Nat) (hp : p ≤ bs.length) : BAt A (.slice (sliceAt a c p 1) (bs.length - p) (c - p)) (bs.drop p) := by
  obtain ⟨hv, a', c', he, hc⟩ := h
  simp only [Value.slice.injEq] at he
  obtain ⟨rfl, rfl, rfl⟩ := he
  refine ⟨?_, _, _, by rw [List.length_drop], by rw [List.length_drop]; omega⟩
  have := hv.cutk (s := 1) (by rw [bV_length]; omega) hc p hp
  rw [List.length_drop, show bV (bs.drop p) = (bV bs).drop (p * 1) from by simp [bV, List.map_drop]]
  exact this
theorem BAt.front {A : HP} {a : Option Addr} {n c : Nat} {bs : List UInt8} (h : BAt A (.slice a n c) bs) (q : Nat) (hq : q ≤ bs.length) : BAt A (.slice (sliceAt a c 0 1) q c) (bs.take q) := by
  obtain ⟨hv, a', c', he, hc⟩ := h
  simp only [Value.slice.injEq] at he
  obtain ⟨rfl, rfl, rfl⟩ := he
  have hl : (bs.take q).length = q := by rw [List.length_take]; omega
  refine ⟨?_, _, _, by rw [hl], by rw [hl]; omega⟩
  have := hv.cut0 (s := 1) q
  rw [hl, show bV (bs.take q) = (bV bs).take (q * 1) from by simp [bV, List.map_take]]
  exact this
theorem BAt.mono {A B : HP} {v : Value} {bs : List UInt8} (h : BAt A v bs) (hAB : ∀ h, B h → ∃ h', sub h' h ∧ A h') : BAt B v bs := ⟨h.1.mono hAB, h.2⟩
theorem BAt.piece {A : HP} {a : Option Addr} {n c : Nat} {bs : List UInt8} (h : BAt A (.slice a n c) bs) (p q : Nat) (hp : p ≤ q) (hq : q ≤ bs.length) : BAt A (.slice (sliceAt a c p 1) (q - p) (c - p)) ((bs.drop p).take (q - p)) := by
  have h1 := h.cut p (by omega)
  obtain ⟨hv, a', c', he, hc⟩ := h1
  have hlen : ((bs.drop p).take (q - p)).length = q - p := by rw [List.length_take, List.length_drop]; omega
  refine ⟨?_, _, _, by rw [hlen], by rw [hlen]; obtain ⟨_, _, _, he2, hc2⟩ := h; simp only [Value.slice.injEq] at he2; omega⟩
  obtain ⟨a2, cap2, he2, h0 | ⟨b, o, ha, hc2⟩⟩ := hv
  · simp only [Value.slice.injEq] at he2
    have : (bs.drop p) = [] := by simpa [bV] using h0
    refine ⟨_, _, by rw [hlen], .inl ?_⟩
    rw [this]; simp [bV]
  · simp only [Value.slice.injEq] at he2
    refine ⟨_, _, by rw [hlen], .inr ⟨b, o, by rw [he2.1, ha], fun h' hA j x hj => ?_⟩⟩
    refine hc2 h' hA j x ?_
    rw [show bV ((bs.drop p).take (q - p)) = (bV (bs.drop p)).take (q - p) from by simp [bV, List.map_take]] at hj
    rw [List.getElem?_take] at hj
    split at hj
    · exact hj
    · cases hj
theorem ToUint_any (A : HP) (v : Value) (bs : List UInt8) (hv : BAt A v bs) (hl : bs.length ≤ 9223372036854775807) :
    Ctr Tryz.prog 155 [v] [A] (fun r H => r = (match toUintA bs with
      | some n => .tuple #[.int .u64 (n : Int), .int .i64 0]
      | none => .tuple #[.int .u64 0, .int .i64 2]) ∧ H = [A]) := by
  refine Ctr.enter Tryz.func155 (by kernel_rfl) rfl Tryz.ntmps155 rfl rfl ?_
  intro G F R hE
  (refine go ?_)
  (first | refine J_callE rfl rfl rfl rfl (cut_any A v bs hv.1 hv.2 hl) entA ?_ (fun _ _ _ _ _ => trivial) | refine J_call0E rfl rfl rfl (cut_any A v bs hv.1 hv.2 hl) entA ?_ (fun _ _ _ _ _ => trivial) | (refine go ?_; first | refine J_callE rfl rfl rfl rfl (cut_any A v bs hv.1 hv.2 hl) entA ?_ (fun _ _ _ _ _ => trivial) | refine J_call0E rfl rfl rfl (cut_any A v bs hv.1 hv.2 hl) entA ?_ (fun _ _ _ _ _ => trivial)))
  rintro _ _ ⟨rv, rfl, ⟨hvr, a, c, rfl, _⟩, rfl⟩
  cases hok : (cutA bs).2.2 with
  | false =>
    have hn : toUintA bs = none := by unfold toUintA; rw [if_neg (by rw [hok]; simp)]
    rw [hn] at hE
    (refine go ?_)
    (first | refine K_return hE Tryz.func155 rfl _ rfl ⟨rfl, rfl⟩ entA | refine K_fallEnd hE Tryz.func155 rfl _ rfl ⟨rfl, rfl⟩ entA)
  | true =>
    repeat' (first | (with_reducible intro _hh) | refine go1 ?_ | refine J_fork ?_ ?_ | refine J_gsP rfl rfl rfl rfl ?_ ?_ | refine K_condP rfl rfl ?_ ?_)
    · have hn : toUintA bs = none := by unfold toUintA; rw [if_neg (fun h => by rw [h.2] at _hh; simp at _hh)]
      rw [hn] at hE
      (first | refine K_return hE Tryz.func155 rfl _ rfl ⟨rfl, rfl⟩ entA | refine K_fallEnd hE Tryz.func155 rfl _ rfl ⟨rfl, rfl⟩ entA)
    · have hn : toUintA bs = some (cutA bs).1 := by unfold toUintA; rw [if_pos ⟨hok, List.eq_nil_of_length_eq_zero (by omega)⟩]
      rw [hn] at hE
      (first | refine K_return hE Tryz.func155 rfl _ rfl ⟨rfl, rfl⟩ entA | refine K_fallEnd hE Tryz.func155 rfl _ rfl ⟨rfl, rfl⟩ entA)
/-- A record as bytes. -/
def encL (bs : List UInt8) : List UInt8 := uv bs.length ++ bs
end Go.Proofs.YtpecmnaikjbanaaGreatDoor
namespace Go.Proofs.YtpecmnaikjbanaaGreatDoor
open Go Go.SL
theorem slc_BAt {e : TypeId} {v : Value} {bs : List UInt8} (h0 : ∃ h, slc e 1 v bs.length (bV bs) h) : BAt (slc e 1 v bs.length (bV bs)) v bs := by
  refine ⟨Vw.of_slc e 1 v bs.length (bV bs) h0, ?_⟩
  obtain ⟨h, hl, ⟨a, rfl, hn, _⟩ | ⟨b, o, cap, pre, junk, rfl, hp, hn, hc, _⟩⟩ := h0
  · exact ⟨a, 0, by rw [hn], by omega⟩
  · exact ⟨_, cap, rfl, hn⟩
section
variable {P : Program} {f : FuncId} {n : Nat} {R : Ending → World → Prop} {G : Glob} {k : List Item} {L : Lst} {H : List HP} {S : World → Prop} {all : Array Oper} {rest : Pl}
theorem J_slcB {e : TypeId} {v : Value} {bs : List UInt8} (i : Nat) (hi : getL H i = some (slc e 1 v bs.length (bV bs))) (h : BAt (slc e 1 v bs.length (bV bs)) v bs → J P f n R G S all rest k L H) : J P f n R G S all rest k L H :=
  J_sat fun w hw => by
    obtain ⟨h1, _, hA⟩ := hw.getA hi
    exact h (slc_BAt ⟨h1, hA⟩)
theorem K_slcB {e : TypeId} {v : Value} {bs : List UInt8} (i : Nat) (hi : getL H i = some (slc e 1 v bs.length (bV bs))) (h : BAt (slc e 1 v bs.length (bV bs)) v bs → K P f n R G k L H) : K P f n R G k L H :=
  K_sat fun ⟨w, hw⟩ => by
    obtain ⟨h1, _, hA⟩ := hw.getA hi
    exact h (slc_BAt ⟨h1, hA⟩)
end
theorem Sep_get {H : List HP} {i : Nat} {A : HP} (hi : getL H i = some A) : ∀ h, Sep H h → ∃ h', sub h' h ∧ A h' := fun h hs => by
  rw [getL_eq] at hi
  obtain ⟨h', hs', hA⟩ := Ent.perm (perm_of_get hi) h hs
  obtain ⟨h1, h2, ha, _, hd, hj⟩ := hA
  refine ⟨h1, fun b o hb => ?_, ha⟩
  refine hs' b o ?_
  rw [hj b, hb]; rfl

end Go.Proofs.YtpecmnaikjbanaaGreatDoor

/- tlv, plain: items, records. -/
set_option linter.unusedVariables false
set_option linter.unusedSimpArgs false
namespace Go.Proofs.YtpecmnaikjbanaaGreatDoor
open Go Go.SL
/-- An item as bytes; items as a record. -/
def itemL (x : Int × List UInt8) : List UInt8 := UInt8.ofNat x.1.toNat :: (uv x.2.length ++ x.2)
def recL (l : List (Int × List UInt8)) : List UInt8 := l.flatMap itemL
/-- tlv: the items of bytes. -/
def tlvL : Nat → List UInt8 → List (Int × List UInt8)
  | 0, _ => []
  | f + 1, b => match b with
    | [] => []
    | c :: r => if (cutA r).2.2 = true ∧ (cutA r).1 ≤ (cutA r).2.1.length then ((c.toNat : Int), (cutA r).2.1.take (cutA r).1) :: tlvL f ((cutA r).2.1.drop (cutA r).1) else [(0, [])]
def riseOk : Int → List (Int × List UInt8) → Bool
  | _, [] => true
  | last, x :: l => decide (last < x.1) && decide (x.1 ≤ 63) && riseOk x.1 l
def tlvA (b : List UInt8) : Option (List (Int × List UInt8)) := if 65536 < b.length then none else if riseOk 0 (tlvL b.length b) then some (tlvL b.length b) else none
/-- An item: its number, its slice, its bytes. -/
structure It where
  n : Int
  v : Value
  b : List UInt8
instance : Inhabited It := ⟨⟨0, .slice none 0 0, []⟩⟩
def itC (x : It) : List Value := [.int .i64 x.n, x.v]
theorem itC_len (x : It) : (itC x).length = 2 := rfl
def It.p (x : It) : Int × List UInt8 := (x.n, x.b)
def ItemsAt (X : HP) (v : Value) (l : List It) : Prop := Vw X v l.length (l.flatMap itC) ∧ ∀ x ∈ l, BAt X x.v x.b
theorem recL_app (a b : List (Int × List UInt8)) : recL (a ++ b) = recL a ++ recL b := by simp [recL]
theorem recL_take (l : List (Int × List UInt8)) (i : Nat) : (recL (l.take i)).length ≤ (recL l).length := by
  conv => rhs; rw [← List.take_append_drop i l]
  rw [recL_app, List.length_append]; omega
def lastN (l : List (Int × List UInt8)) (i : Nat) : Int := match (l.take i).getLast? with
  | some x => x.1
  | none => 0
theorem rise_get : ∀ (l : List (Int × List UInt8)) (last : Int) (i : Nat) (x : Int × List UInt8), riseOk last l = true → l[i]? = some x → (match (l.take i).getLast? with | some y => y.1 | none => last) < x.1 ∧ x.1 ≤ 63 := by
  intro l
  induction l with
  | nil => intro last i x h hx; simp at hx
  | cons y l ih =>
    intro last i x h hx
    simp only [riseOk, Bool.and_eq_true, decide_eq_true_eq] at h
    cases i with
    | zero => simp at hx; subst hx; simpa using h.1
    | succ i =>
      simp only [List.getElem?_cons_succ] at hx
      have := ih y.1 i x h.2 hx
      rw [List.take_succ_cons]
      cases hl : l.take i with
      | nil => rw [hl] at this; simpa using this
      | cons z r => rw [hl] at this; rw [List.getLast?_cons_cons]; exact this
theorem lastN_succ {l : List (Int × List UInt8)} {i : Nat} {x : Int × List UInt8} (h : l[i]? = some x) : lastN l (i + 1) = x.1 := by
  unfold lastN
  rw [List.take_add_one, h]; simp
theorem rise_pos : ∀ (l : List (Int × List UInt8)) (last : Int), riseOk last l = true → 0 ≤ last → ∀ x ∈ l, 0 < x.1 := by
  intro l
  induction l with
  | nil => intro last h h0 x hx; cases hx
  | cons y l ih =>
    intro last h h0 x hx
    simp only [riseOk, Bool.and_eq_true, decide_eq_true_eq] at h
    rcases List.mem_cons.1 hx with rfl | hx
    · omega
    · exact ih y.1 h.2 (by omega) x hx
theorem cutL_len : ∀ (bs : List UInt8) (i acc n : Nat) (r : List UInt8) (ok : Bool), cutL i acc bs = some (n, r, ok) → r.length < bs.length := by
  intro bs
  induction bs with
  | nil => intro i acc n r ok h; simp [cutL] at h
  | cons c bs ih =>
    intro i acc n r ok h
    simp only [cutL] at h
    split at h
    · cases h
    · split at h
      · simp only [Option.some.injEq, Prod.mk.injEq] at h
        rw [← h.2.1, List.length_cons]; omega
      · have := ih _ _ n r ok h
        rw [List.length_cons]; omega
theorem cutA_len (bs : List UInt8) : (cutA bs).2.1.length ≤ bs.length := by
  unfold cutA
  cases h : cutL 0 0 bs with
  | none => simp
  | some x =>
    obtain ⟨n, r, ok⟩ := x
    have := cutL_len bs 0 0 _ _ _ h
    simp only [Option.getD_some]; omega
theorem tlvL_fuel : ∀ (f g : Nat) (b : List UInt8), b.length ≤ f → b.length ≤ g → tlvL f b = tlvL g b
  | 0, 0, _, _, _ => rfl
  | 0, g + 1, b, hf, _ => by
    have : b = [] := List.eq_nil_of_length_eq_zero (by omega)
    subst this; rfl
  | f + 1, 0, b, _, hg => by
    have : b = [] := List.eq_nil_of_length_eq_zero (by omega)
    subst this; rfl
  | f + 1, g + 1, [], _, _ => rfl
  | f + 1, g + 1, c :: r, hf, hg => by
    rw [tlvL, tlvL]
    have := cutA_len r
    rw [List.length_cons] at hf hg
    split
    · rw [tlvL_fuel f g _ (by rw [List.length_drop]; omega) (by rw [List.length_drop]; omega)]
    · rfl
def tlvI (b : List UInt8) : List (Int × List UInt8) := tlvL b.length b
theorem tlvI_nil : tlvI [] = [] := rfl
theorem tlvI_cons {c : UInt8} {r : List UInt8} (h : (cutA r).2.2 = true ∧ (cutA r).1 ≤ (cutA r).2.1.length) : tlvI (c :: r) = ((c.toNat : Int), (cutA r).2.1.take (cutA r).1) :: tlvI ((cutA r).2.1.drop (cutA r).1) := by
  have h1 := cutA_len r
  unfold tlvI
  rw [List.length_cons, tlvL]
  rw [if_pos h, tlvL_fuel _ _ _ (by rw [List.length_drop]; omega) (Nat.le_refl _)]
theorem tlvI_bad {c : UInt8} {r : List UInt8} (h : ¬ ((cutA r).2.2 = true ∧ (cutA r).1 ≤ (cutA r).2.1.length)) : tlvI (c :: r) = [(0, [])] := by
  unfold tlvI
  rw [List.length_cons, tlvL]
  rw [if_neg h]
theorem tlvI_len : ∀ (f : Nat) (b : List UInt8), b.length ≤ f → (tlvI b).length ≤ b.length
  | 0, b, h => by
    have : b = [] := List.eq_nil_of_length_eq_zero (by omega)
    subst this; simp [tlvI_nil]
  | f + 1, [], _ => by simp [tlvI_nil]
  | f + 1, c :: r, h => by
    have h1 := cutA_len r
    rw [List.length_cons] at h
    by_cases hk : (cutA r).2.2 = true ∧ (cutA r).1 ≤ (cutA r).2.1.length
    · have h2 := tlvI_len f ((cutA r).2.1.drop (cutA r).1) (by rw [List.length_drop]; omega)
      rw [List.length_drop] at h2
      rw [tlvI_cons hk, List.length_cons, List.length_cons]
      omega
    · rw [tlvI_bad hk, List.length_cons]; simp
def goodI (xs : List (Int × List UInt8)) (i : Nat) : Bool := match xs[i]? with
  | some x => decide (lastN xs i < x.1) && decide (x.1 ≤ 63)
  | none => true
theorem goodI_at {xs : List (Int × List UInt8)} {i : Nat} {x : Int × List UInt8} (h : xs[i]? = some x) : goodI xs i = (decide (lastN xs i < x.1) && decide (x.1 ≤ 63)) := by unfold goodI; rw [h]
theorem rise_all : ∀ (l : List (Int × List UInt8)) (last : Int), (riseOk last l = true ↔ ∀ i x, l[i]? = some x → (match (l.take i).getLast? with | some y => y.1 | none => last) < x.1 ∧ x.1 ≤ 63) := by
  intro l
  induction l with
  | nil => intro last; simp [riseOk]
  | cons y l ih =>
    intro last
    simp only [riseOk, Bool.and_eq_true, decide_eq_true_eq, ih]
    constructor
    · rintro ⟨⟨h1, h2⟩, h3⟩ i x hx
      cases i with
      | zero => simp at hx; subst hx; exact ⟨h1, h2⟩
      | succ i =>
        have := h3 i x (by simpa using hx)
        rw [List.take_succ_cons]
        cases hl : l.take i with
        | nil => rw [hl] at this; simpa using this
        | cons z r => rw [hl] at this; rw [List.getLast?_cons_cons]; exact this
    · intro h
      refine ⟨by simpa using h 0 y rfl, fun i x hx => ?_⟩
      have := h (i + 1) x (by simpa using hx)
      rw [List.take_succ_cons] at this
      cases hl : l.take i with
      | nil => rw [hl] at this; simpa using this
      | cons z r => rw [hl, List.getLast?_cons_cons] at this; exact this
theorem rise_good (xs : List (Int × List UInt8)) : riseOk 0 xs = true ↔ ∀ i, i < xs.length → goodI xs i = true := by
  rw [rise_all]
  constructor
  · intro h i hi
    have hx : xs[i]? = some xs[i] := by simp
    rw [goodI_at hx, Bool.and_eq_true, decide_eq_true_eq, decide_eq_true_eq]
    exact h i _ hx
  · intro h i x hx
    have := h i (List.getElem?_eq_some_iff.1 hx).1
    rw [goodI_at hx, Bool.and_eq_true, decide_eq_true_eq, decide_eq_true_eq] at this
    exact this
end Go.Proofs.YtpecmnaikjbanaaGreatDoor

/- merkle and manifest, plain. -/
set_option linter.unusedVariables false
set_option linter.unusedSimpArgs false
namespace Go.Proofs.YtpecmnaikjbanaaGreatDoor
open Go Go.SL
def leafL (b : List UInt8) : Dg := taggedL 0 [b]
def nodeL (l r : Dg) : Dg := taggedL 1 [l.bs, r.bs]
/-- The row above one. -/
def aboveL : List Dg → List Dg
  | a :: b :: r => nodeL a b :: aboveL r
  | l => l
theorem aboveL_len : ∀ l : List Dg, (aboveL l).length = (l.length + 1) / 2
  | [] => rfl
  | [a] => by simp [aboveL]
  | a :: b :: r => by simp only [aboveL, List.length_cons, aboveL_len r]; omega
theorem aboveL_get : ∀ (l : List Dg) (i : Nat), (aboveL l)[i]? = match l[2 * i]?, l[2 * i + 1]? with
    | some a, some b => some (nodeL a b)
    | x, _ => x
  | [], i => by simp [aboveL]
  | [a], i => by
    cases i with
    | zero => rfl
    | succ i => simp [aboveL, show 2 * (i + 1) = 2 * i + 1 + 1 from by omega]
  | a :: b :: r, i => by
    cases i with
    | zero => rfl
    | succ i =>
      simp only [aboveL, List.getElem?_cons_succ, show 2 * (i + 1) = 2 * i + 1 + 1 from by omega]
      exact aboveL_get r i
/-- The row behind so many steps. -/
def upL : Nat → List Dg → List Dg
  | 0, l => l
  | f + 1, l => if l.length ≤ 1 then l else upL f (aboveL l)
def rootL (l : List Dg) : Dg := if l = [] then taggedL 2 [] else ((upL l.length l).head?).getD Dg.zero
/-- What tells of a blob. -/
structure Bl where
  d : Dg
  size : Int
  piece : Int
  root : Dg
deriving DecidableEq
instance : Inhabited Bl := ⟨⟨Dg.zero, 0, 0, Dg.zero⟩⟩
def Bl.zero : Bl := ⟨Dg.zero, 0, 0, Dg.zero⟩
def blC (x : Bl) : List Value := dC x.d ++ [.int .i64 x.size, .int .i64 x.piece] ++ dC x.root
theorem blC_len (x : Bl) : (blC x).length = 66 := rfl
def rightB (x : Bl) : Bool := decide (1 ≤ x.size ∧ x.size ≤ 1048576 ∧ 16 ≤ x.piece ∧ x.piece ≤ 16384 ∧ (x.size + x.piece - 1) / x.piece ≤ 1024)
def countB (x : Bl) : Int := if rightB x then (x.size + x.piece - 1) / x.piece else 0
def spanB (x : Bl) (i : Int) : Option (Int × Int) := if i < 0 ∨ countB x ≤ i then none else some (i * x.piece, min x.piece (x.size - i * x.piece))
/-- Bytes in pieces of so many. -/
def piecesL (k : Nat) : Nat → List UInt8 → List (List UInt8)
  | 0, _ => []
  | f + 1, b => if b = [] then [] else b.take k :: piecesL k f (b.drop k)
def leavesB (b : List UInt8) (piece : Int) : Option (List Dg) := if rightB ⟨Dg.zero, b.length, piece, Dg.zero⟩ then some ((piecesL piece.toNat b.length b).map leafL) else none
def blobB (b : List UInt8) (piece : Int) : Option Bl := (leavesB b piece).map fun l => ⟨sumL b, b.length, piece, rootL l⟩
def wholeB (x : Bl) (b : List UInt8) : Bool := decide (blobB b x.piece = some x)
def twiceB : List Bl → Bool
  | [] => false
  | x :: l => l.any (fun y => decide (y.d = x.d)) || twiceB l
def imageB (l : List Bl) : Nat := if l.length < 1 ∨ 16 < l.length ∨ l.any (fun x => !rightB x) = true then 1 else if twiceB l then 5 else 0
/-- A blob as items; an image as items; as bytes; its name. -/
def itemsB (x : Bl) : List (Int × List UInt8) := [(1, x.d.bs), (2, uv x.size.toNat), (3, uv x.piece.toNat), (4, x.root.bs)]
def itemsI : Nat → List Bl → List (Int × List UInt8)
  | _, [] => []
  | i, x :: l => ((i : Int) + 1, recL (itemsB x)) :: itemsI (i + 1) l
def encB (l : List Bl) : List UInt8 := recL (itemsI 0 l)
def nameB (l : List Bl) : Dg := sumL (encB l)
/-- Bytes as a hash. -/
def dgOf (b : List UInt8) : Dg := if h : b.length = 32 then ⟨b, h⟩ else Dg.zero
def blobD (b : List UInt8) : Option Bl := match tlvA b with
  | some [(_, a), (_, s), (_, p), (n, r)] => if n ≠ 4 ∨ a.length ≠ 32 ∨ r.length ≠ 32 then none else match toUintA s, toUintA p with
    | some s, some p => if 1048576 < max s p then none else some ⟨dgOf a, s, p, dgOf r⟩
    | _, _ => none
  | _ => none
def layersD : Nat → List (Int × List UInt8) → Option (List Bl)
  | _, [] => some []
  | i, (n, b) :: l => match blobD b with
    | some x => if n ≠ (i : Int) + 1 then none else (layersD (i + 1) l).map (x :: ·)
    | none => none
def decB (b : List UInt8) : Option (List Bl) := match tlvA b with
  | some l => match layersD 0 l with
    | some x => if imageB x = 0 then some x else none
    | none => none
  | none => none
/-! ## a record read again -/
theorem tlvI_item {n : Nat} (hn : n < 256) (b : List UInt8) (hb : b.length < 9223372036854775808) (r : List UInt8) : tlvI (itemL ((n : Int), b) ++ r) = ((n : Int), b) :: tlvI r := by
  have h1 : itemL ((n : Int), b) ++ r = UInt8.ofNat n :: (uv b.length ++ (b ++ r)) := by simp [itemL]
  have h2 := cutA_uv hb (b ++ r)
  rw [h1, tlvI_cons (by rw [h2]; simp), h2]
  simp only [List.take_left, List.drop_left, List.cons.injEq, Prod.mk.injEq, and_true]
  simp [UInt8.toNat_ofNat']
  omega
theorem tlvI_rec : ∀ (l : List (Int × List UInt8)) (last : Int), 0 ≤ last → riseOk last l = true → (∀ x ∈ l, x.2.length < 9223372036854775808) → tlvI (recL l) = l := by
  intro l
  induction l with
  | nil => intro _ _ _ _; rfl
  | cons x l ih =>
    intro last h0 hr hl
    obtain ⟨n, b⟩ := x
    simp only [riseOk, Bool.and_eq_true, decide_eq_true_eq] at hr
    obtain ⟨m, rfl⟩ : ∃ m : Nat, n = m := ⟨n.toNat, by omega⟩
    have e : recL ((↑m, b) :: l) = itemL ((m : Int), b) ++ recL l := by simp [recL]
    rw [e, tlvI_item (by omega) b (hl _ (List.mem_cons_self ..)), ih _ (by omega) hr.2 fun y hy => hl y (List.mem_cons_of_mem _ hy)]
theorem tlvA_rec {l : List (Int × List UInt8)} (hr : riseOk 0 l = true) (hs : (recL l).length ≤ 65536) : tlvA (recL l) = some l := by
  have hl : ∀ x ∈ l, x.2.length < 9223372036854775808 := fun x hx => by
    obtain ⟨p, q, rfl⟩ := List.append_of_mem hx
    rw [recL_app, List.length_append] at hs
    simp only [recL, List.flatMap_cons, List.length_append, itemL, List.length_cons] at hs
    omega
  have h := tlvI_rec l 0 (Int.le_refl _) hr hl
  unfold tlvI at h
  unfold tlvA
  rw [if_neg (by omega), h, if_pos hr]
theorem uv_len3 {n : Nat} (h : n ≤ 1048576) : (uv n).length ≤ 3 := uv_len 2 n (by omega)
theorem itemsB_len (x : Bl) (h : rightB x = true) : (recL (itemsB x)).length ≤ 78 := by
  simp only [rightB, decide_eq_true_eq] at h
  have h1 := uv_len3 (n := x.size.toNat) (by omega)
  have h2 := uv_len3 (n := x.piece.toNat) (by omega)
  have h3 : uv 32 = [32] := by rw [uv_small (by omega)]; rfl
  have h4 : (uv (uv x.size.toNat).length).length = 1 := by rw [uv_small (by omega)]; rfl
  have h5 : (uv (uv x.piece.toNat).length).length = 1 := by rw [uv_small (by omega)]; rfl
  simp only [recL, itemsB, itemL, List.flatMap_cons, List.flatMap_nil, List.length_append, List.length_cons, List.length_nil, x.d.len, x.root.len, h3, h4, h5]
  omega
theorem blobD_enc (x : Bl) (h : rightB x = true) : blobD (recL (itemsB x)) = some x := by
  have hl := itemsB_len x h
  have h' := h
  simp only [rightB, decide_eq_true_eq] at h'
  unfold blobD
  rw [tlvA_rec (by simp [itemsB, riseOk]) (by omega)]
  simp only [itemsB, x.d.len, x.root.len, ne_eq, not_true_eq_false, or_self, if_false]
  rw [toUint_uv (by omega), toUint_uv (by omega)]
  simp only
  rw [if_neg (by omega)]
  obtain ⟨d, s, p, r⟩ := x
  simp only at h' ⊢
  obtain ⟨s, rfl⟩ : ∃ m : Nat, s = m := ⟨s.toNat, by omega⟩
  obtain ⟨p, rfl⟩ : ∃ m : Nat, p = m := ⟨p.toNat, by omega⟩
  simp [dgOf, d.len, r.len]
theorem itemsI_rise : ∀ (l : List Bl) (i : Nat), i + l.length ≤ 63 → riseOk (i : Int) (itemsI i l) = true
  | [], i, _ => rfl
  | x :: l, i, h => by
    rw [List.length_cons] at h
    simp only [itemsI, riseOk, Bool.and_eq_true, decide_eq_true_eq]
    refine ⟨⟨by omega, by omega⟩, ?_⟩
    have := itemsI_rise l (i + 1) (by omega)
    rw [Int.natCast_add] at this
    exact this
theorem itemsI_len : ∀ (l : List Bl) (i : Nat), (∀ x ∈ l, rightB x = true) → (recL (itemsI i l)).length ≤ 80 * l.length
  | [], i, _ => by simp [itemsI, recL]
  | x :: l, i, h => by
    have h1 := itemsB_len x (h x (List.mem_cons_self ..))
    have h2 := itemsI_len l (i + 1) fun y hy => h y (List.mem_cons_of_mem _ hy)
    have h3 : (uv (recL (itemsB x)).length).length = 1 := by rw [uv_small (by omega)]; rfl
    simp only [recL] at h1 h2 h3
    simp only [itemsI, recL, List.flatMap_cons, List.length_append, itemL, List.length_cons, h3]
    omega
theorem layersD_enc : ∀ (l : List Bl) (i : Nat), (∀ x ∈ l, rightB x = true) → layersD i (itemsI i l) = some l
  | [], i, _ => rfl
  | x :: l, i, h => by
    simp only [itemsI, layersD, blobD_enc x (h x (List.mem_cons_self ..)), ne_eq, not_true_eq_false, if_false]
    rw [layersD_enc l (i + 1) fun y hy => h y (List.mem_cons_of_mem _ hy)]
    rfl
theorem imageB_right {l : List Bl} (h : imageB l = 0) : l.length ≤ 16 ∧ 1 ≤ l.length ∧ ∀ x ∈ l, rightB x = true := by
  unfold imageB at h
  split at h
  · cases h
  · rename_i h1
    rw [not_or, not_or] at h1
    refine ⟨by omega, by omega, fun x hx => ?_⟩
    have := h1.2.2
    simp only [Bool.not_eq_true, List.any_eq_false, Bool.not_eq_true', Bool.not_eq_false] at this
    have := this x hx
    simpa using this
theorem encB_len {l : List Bl} (h : imageB l = 0) : (encB l).length ≤ 1280 := by
  obtain ⟨h1, h2, h3⟩ := imageB_right h
  have := itemsI_len l 0 h3
  unfold encB; omega
theorem decB_enc {l : List Bl} (h : imageB l = 0) : decB (encB l) = some l := by
  obtain ⟨h1, h2, h3⟩ := imageB_right h
  have hl := encB_len h
  have hr := itemsI_rise l 0 (by omega)
  unfold decB encB
  unfold encB at hl
  rw [tlvA_rec hr (by omega)]
  simp only [layersD_enc l 0 h3, h, if_true]
theorem decB_image {b : List UInt8} {l : List Bl} (h : decB b = some l) : imageB l = 0 := by
  unfold decB at h
  split at h
  · split at h
    · split at h
      · cases h; assumption
      · cases h
    · cases h
  · cases h
end Go.Proofs.YtpecmnaikjbanaaGreatDoor

/- digest, plain: a hash as signs, and back; names of files that bear a hash. -/
set_option linter.unusedVariables false
set_option linter.unusedSimpArgs false
namespace Go.SL
open Go
def sgn (n : Nat) : UInt8 := UInt8.ofNat (if n < 10 then 48 + n else 87 + n)
def hexv (c : UInt8) : Option Nat := if 48 ≤ c.toNat ∧ c.toNat ≤ 57 then some (c.toNat - 48) else if 97 ≤ c.toNat ∧ c.toNat ≤ 102 then some (c.toNat - 87) else none
def hv0 (s : List UInt8) (i : Nat) : Nat := (hexv (s.getD i 0)).getD 0
/-- The sign at a place of a hash's text. -/
def sgnAt (d : Dg) (i : Nat) : UInt8 := sgn (if i % 2 = 0 then (d.at (i / 2)).toNat / 16 else (d.at (i / 2)).toNat % 16)
def textL (d : Dg) : List UInt8 := (List.range 64).map (sgnAt d)
theorem textL_len (d : Dg) : (textL d).length = 64 := by simp [textL]
theorem textL_get (d : Dg) {i : Nat} (h : i < 64) : (textL d)[i]? = some (sgnAt d i) := by simp [textL, h]
/-- What stands behind so many signs. -/
def pdB (s : List UInt8) (i : Nat) : List UInt8 := (List.range 32).map fun j => UInt8.ofNat (if 2 * j + 1 < i then 16 * hv0 s (2 * j) + hv0 s (2 * j + 1) else if 2 * j < i then hv0 s (2 * j) else 0)
theorem pdB_len (s : List UInt8) (i : Nat) : (pdB s i).length = 32 := by simp [pdB]
theorem pdB_get (s : List UInt8) (i : Nat) {j : Nat} (h : j < 32) : (pdB s i)[j]? = some (UInt8.ofNat (if 2 * j + 1 < i then 16 * hv0 s (2 * j) + hv0 s (2 * j + 1) else if 2 * j < i then hv0 s (2 * j) else 0)) := by simp [pdB, h]
theorem pdB_zero (s : List UInt8) : pdB s 0 = List.replicate 32 0 := by
  apply List.ext_getElem?
  intro j
  rcases Nat.lt_or_ge j 32 with h | h
  · rw [pdB_get s 0 h, List.getElem?_replicate, if_pos h]; simp
  · rw [List.getElem?_eq_none (by rw [pdB_len]; exact h), List.getElem?_eq_none (by simpa using h)]
theorem hexv_lt {c : UInt8} {v : Nat} (h : hexv c = some v) : v < 16 := by
  unfold hexv at h
  split at h
  · cases h; omega
  split at h
  · cases h; omega
  · cases h
theorem hv0_lt (s : List UInt8) (i : Nat) : hv0 s i < 16 := by
  unfold hv0
  cases h : hexv (s.getD i 0) with
  | none => simp
  | some v => exact hexv_lt h
theorem hexv_sgn {n : Nat} (h : n < 16) : hexv (sgn n) = some n := by
  have : ∀ n : Nat, n < 16 → hexv (sgn n) = some n := by decide
  exact this n h
theorem sgn_hexv {c : UInt8} {v : Nat} (h : hexv c = some v) : sgn v = c := by
  apply UInt8.toNat.inj
  unfold hexv at h
  unfold sgn
  simp only [UInt8.toNat_ofNat']
  split at h
  · cases h; rw [if_pos (by omega)]; omega
  split at h
  · cases h; rw [if_neg (by omega)]; omega
  · cases h
def parseL (s : List UInt8) : Option Dg := if s.length = 64 ∧ ∀ c ∈ s, hexv c ≠ none then some ⟨pdB s 64, pdB_len s 64⟩ else none
theorem getD_of {s : List UInt8} {i : Nat} {c : UInt8} (h : s[i]? = some c) : s.getD i 0 = c := by rw [List.getD_eq_getElem?_getD, h]; rfl
theorem sgnAt_lt (d : Dg) (i : Nat) : hexv (sgnAt d i) = some (if i % 2 = 0 then (d.at (i / 2)).toNat / 16 else (d.at (i / 2)).toNat % 16) := by
  have := (d.at (i / 2)).toNat_lt
  exact hexv_sgn (by split <;> omega)
theorem Dg.at_get (d : Dg) {j : Nat} (h : j < 32) : d.bs[j]? = some (d.at j) := by
  unfold Dg.at
  rw [List.getD_eq_getElem?_getD, List.getElem?_eq_getElem (by rw [d.len]; exact h)]; rfl
theorem parse_text (d : Dg) : parseL (textL d) = some d := by
  unfold parseL
  rw [if_pos ⟨textL_len d, fun c hc => by
    obtain ⟨i, hi, rfl⟩ := List.mem_map.1 hc
    rw [sgnAt_lt]; simp⟩]
  congr 1
  obtain ⟨bs, hl⟩ := d
  simp only [Dg.mk.injEq]
  apply List.ext_getElem?
  intro j
  rcases Nat.lt_or_ge j 32 with h | h
  · rw [pdB_get _ _ h, if_pos (by omega), (⟨bs, hl⟩ : Dg).at_get h]
    unfold hv0
    rw [getD_of (textL_get _ (show 2 * j < 64 by omega)), getD_of (textL_get _ (show 2 * j + 1 < 64 by omega)), sgnAt_lt, sgnAt_lt]
    simp only [Option.getD_some, Option.some.injEq]
    rw [if_pos (by omega), if_neg (by omega), show 2 * j / 2 = j from by omega, show (2 * j + 1) / 2 = j from by omega]
    apply UInt8.toNat.inj
    simp only [UInt8.toNat_ofNat']
    have := ((⟨bs, hl⟩ : Dg).at j).toNat_lt
    omega
  · rw [List.getElem?_eq_none (by rw [pdB_len]; exact h), List.getElem?_eq_none (by rw [hl]; exact h)]
theorem text_parse {s : List UInt8} {d : Dg} (h : parseL s = some d) : s = textL d := by
  unfold parseL at h
  split at h
  · rename_i hs
    cases h
    apply List.ext_getElem?
    intro i
    rcases Nat.lt_or_ge i 64 with hi | hi
    · rw [textL_get _ hi]
      obtain ⟨c, hc⟩ : ∃ c, s[i]? = some c := ⟨s[i], List.getElem?_eq_getElem (by omega)⟩
      rw [hc]
      congr 1
      obtain ⟨v, hv⟩ := Option.ne_none_iff_exists'.1 (hs.2 c (List.mem_of_getElem? hc))
      rw [← sgn_hexv hv]
      unfold sgnAt
      congr 1
      have hat : (Dg.at ⟨pdB s 64, pdB_len s 64⟩ (i / 2)) = UInt8.ofNat (16 * hv0 s (2 * (i / 2)) + hv0 s (2 * (i / 2) + 1)) := by
        unfold Dg.at
        rw [getD_of (pdB_get s 64 (show i / 2 < 32 by omega)), if_pos (by omega)]
      rw [hat]
      have h1 := hv0_lt s (2 * (i / 2))
      have h2 := hv0_lt s (2 * (i / 2) + 1)
      have h3 : hv0 s i = v := by unfold hv0; rw [getD_of hc, hv]; rfl
      simp only [UInt8.toNat_ofNat']
      split
      · rename_i he
        rw [show 2 * (i / 2) = i from by omega] at h1 h2 ⊢
        omega
      · rename_i he
        rw [show 2 * (i / 2) + 1 = i from by omega] at h2 ⊢
        omega
    · rw [List.getElem?_eq_none (by omega), List.getElem?_eq_none (by rw [textL_len]; exact hi)]
  · cases h
theorem parse_iff {s : List UInt8} {d : Dg} : parseL s = some d ↔ s = textL d := ⟨text_parse, fun h => by rw [h]; exact parse_text d⟩
theorem textL_inj {a b : Dg} (h : textL a = textL b) : a = b := by
  have := parse_text a
  rw [h, parse_text b] at this
  exact (Option.some.inj this).symm
/-- The file of a kind and a hash; the hash of a name of that kind. -/
def fileN (kind : List UInt8) (d : Dg) : ByteArray := strOf (kind ++ textL d)
def hashN (kind : List UInt8) (name : ByteArray) : Option Dg := if kind.isPrefixOf name.data.toList then parseL (name.data.toList.drop kind.length) else none
theorem strOf_list (l : List UInt8) : (strOf l).data.toList = l := by simp [strOf]
theorem hashN_iff {kind : List UInt8} {name : ByteArray} {d : Dg} : hashN kind name = some d ↔ name = fileN kind d := by
  unfold hashN fileN
  constructor
  · intro h
    split at h
    · rename_i hp
      have h2 := text_parse h
      obtain ⟨t, ht⟩ := List.isPrefixOf_iff_prefix.1 hp
      rw [← ht, List.drop_left] at h2
      subst h2
      rw [ht, strOf_data]
    · cases h
  · rintro rfl
    rw [strOf_list, if_pos (List.isPrefixOf_iff_prefix.2 ⟨_, rfl⟩), List.drop_left, parse_text]
theorem hashN_file (kind : List UInt8) (d : Dg) : hashN kind (fileN kind d) = some d := hashN_iff.2 rfl
theorem fileN_inj {k : List UInt8} {a b : Dg} (h : fileN k a = fileN k b) : a = b := by
  have := hashN_file k a
  rw [h, hashN_file] at this
  exact (Option.some.inj this).symm
theorem fileN_kind {j k : List UInt8} {a b : Dg} (hl : j.length = k.length) (h : fileN j a = fileN k b) : j = k := by
  unfold fileN at h
  have := strOf_inj.1 h
  exact (List.append_inj this hl).1
end Go.SL

/- A pointer to a variable. -/
namespace Go.Proofs.YtpecmnaikjbanaaGreatDoor
open Go Go.SL
def ptr (f : Nat) : Value := .pointer (some ⟨f, 0, none⟩)
end Go.Proofs.YtpecmnaikjbanaaGreatDoor

/- slices.Clone at bytes. -/
set_option linter.unusedVariables false
set_option linter.unusedSimpArgs false
namespace Go.Proofs.YtpecmnaikjbanaaGreatDoor
open Go Go.SL
attribute [local irreducible] J K Ctr Ends pts slc mapR mapI sbRow

theorem Clone_bytes (A : HP) (v : Value) (bs : List UInt8) (hv : Vw A v bs.length (bV bs)) (hlen : bs.length ≤ 1000000000) :
    Ctr Tryz.prog 88 [v] [A] (fun r H => H = [slc 5 1 r bs.length (bV bs), A]) := by
  obtain ⟨a, c0, rfl⟩ := hv.shape
  cases a with
  | none =>
    have hb : bs = [] := by
      obtain ⟨a, cap, h1, h2 | ⟨b, o, h2, _⟩⟩ := hv
      · simpa [bV] using h2
      · simp only [Value.slice.injEq] at h1; rw [← h1.1] at h2; cases h2
    subst hb
    refine Ctr.enter Tryz.func88 (by kernel_rfl) rfl Tryz.ntmps88 rfl rfl ?_
    intro G F R hR
    (refine go ?_)
    have he : c0 = c0 := rfl
    refine K_ent (slc_lift 5 1 none _) ?_
    refine K_return hR Tryz.func88 rfl _ rfl rfl (Ent.fin [0, 1] 0 rfl rfl)
  | some a =>
    refine Ctr.enter Tryz.func88 (by kernel_rfl) rfl Tryz.ntmps88 rfl rfl ?_
    intro G F R hR
    (refine go ?_)
    refine J_buildSlice1 (U := tab) rfl rfl rfl rfl rfl rfl rfl rfl rfl (fun _ _ _ => trivial) ?_
    intro b0
    (refine go ?_)
    refine J_ent (slc_row 5 1 b0 0 0 [] [] _ rfl (Nat.le_refl _) (by simp)) ?_
    refine J_append (U := tab) (mm := bs.length) (news := bV bs) 0 1 rfl rfl rfl rfl rfl rfl rfl rfl rfl rfl rfl rfl hv (by show _ = _ * 1; rw [bV_length]; omega) (bV_one bs) (by omega) (by show _ * 1 ≤ _; omega) (fun _ => rfl) (fun _ _ _ => trivial) ?_
    intro v'
    have e1 : (0 : Nat) + bs.length = bs.length := by omega
    rw [e1, List.nil_append]
    (refine go ?_)
    refine K_return hR Tryz.func88 rfl _ rfl rfl (Ent.fin [0, 1] 0 rfl rfl)

end Go.Proofs.YtpecmnaikjbanaaGreatDoor

