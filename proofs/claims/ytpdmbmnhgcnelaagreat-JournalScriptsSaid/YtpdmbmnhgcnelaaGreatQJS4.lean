/- Texts of one claim, joined: Tab, Lb, Fa, Fb, Fc, Fd, Fe, Ff. -/
import Derived.Test.YtpdmbmnhgcnelaaGreatQJS3
import Derived.Test.YtpdmbmnhgcnelaaGreatProg
/- The table of types of this seat's translation, as a tree (written by program: mktab.py), and that the program's own table says the same. -/
namespace Go.Proofs.YtpdmbmnhgcnelaaGreat
open Go.SL
theorem tab1 : Tryz.prog.underlying 1 = some Tryz.t1.desc ∧ Tryz.prog.info? 1 = some Tryz.t1 := ⟨by kernel_rfl, by kernel_rfl⟩
theorem tab2 : Tryz.prog.underlying 2 = some Tryz.t2.desc ∧ Tryz.prog.info? 2 = some Tryz.t2 := ⟨by kernel_rfl, by kernel_rfl⟩
theorem tab3 : Tryz.prog.underlying 3 = some Tryz.t3.desc ∧ Tryz.prog.info? 3 = some Tryz.t3 := ⟨by kernel_rfl, by kernel_rfl⟩
theorem tab4 : Tryz.prog.underlying 4 = some Tryz.t4.desc ∧ Tryz.prog.info? 4 = some Tryz.t4 := ⟨by kernel_rfl, by kernel_rfl⟩
theorem tab5 : Tryz.prog.underlying 5 = some Tryz.t5.desc ∧ Tryz.prog.info? 5 = some Tryz.t5 := ⟨by kernel_rfl, by kernel_rfl⟩
theorem tab6 : Tryz.prog.underlying 6 = some Tryz.t5.desc ∧ Tryz.prog.info? 6 = some Tryz.t6 := ⟨by kernel_rfl, by kernel_rfl⟩
theorem tab7 : Tryz.prog.underlying 7 = some Tryz.t7.desc ∧ Tryz.prog.info? 7 = some Tryz.t7 := ⟨by kernel_rfl, by kernel_rfl⟩
theorem tab8 : Tryz.prog.underlying 8 = some Tryz.t7.desc ∧ Tryz.prog.info? 8 = some Tryz.t8 := ⟨by kernel_rfl, by kernel_rfl⟩
theorem tab9 : Tryz.prog.underlying 9 = some Tryz.t9.desc ∧ Tryz.prog.info? 9 = some Tryz.t9 := ⟨by kernel_rfl, by kernel_rfl⟩
theorem tab10 : Tryz.prog.underlying 10 = some Tryz.t9.desc ∧ Tryz.prog.info? 10 = some Tryz.t10 := ⟨by kernel_rfl, by kernel_rfl⟩
theorem tab11 : Tryz.prog.underlying 11 = some Tryz.t9.desc ∧ Tryz.prog.info? 11 = some Tryz.t11 := ⟨by kernel_rfl, by kernel_rfl⟩
theorem tab12 : Tryz.prog.underlying 12 = some Tryz.t12.desc ∧ Tryz.prog.info? 12 = some Tryz.t12 := ⟨by kernel_rfl, by kernel_rfl⟩
theorem tab13 : Tryz.prog.underlying 13 = some Tryz.t13.desc ∧ Tryz.prog.info? 13 = some Tryz.t13 := ⟨by kernel_rfl, by kernel_rfl⟩
theorem tab14 : Tryz.prog.underlying 14 = some Tryz.t13.desc ∧ Tryz.prog.info? 14 = some Tryz.t14 := ⟨by kernel_rfl, by kernel_rfl⟩
theorem tab15 : Tryz.prog.underlying 15 = some Tryz.t15.desc ∧ Tryz.prog.info? 15 = some Tryz.t15 := ⟨by kernel_rfl, by kernel_rfl⟩
theorem tab16 : Tryz.prog.underlying 16 = some Tryz.t16.desc ∧ Tryz.prog.info? 16 = some Tryz.t16 := ⟨by kernel_rfl, by kernel_rfl⟩
theorem tab17 : Tryz.prog.underlying 17 = some Tryz.t17.desc ∧ Tryz.prog.info? 17 = some Tryz.t17 := ⟨by kernel_rfl, by kernel_rfl⟩
theorem tab18 : Tryz.prog.underlying 18 = some Tryz.t18.desc ∧ Tryz.prog.info? 18 = some Tryz.t18 := ⟨by kernel_rfl, by kernel_rfl⟩
theorem tab19 : Tryz.prog.underlying 19 = some Tryz.t18.desc ∧ Tryz.prog.info? 19 = some Tryz.t19 := ⟨by kernel_rfl, by kernel_rfl⟩
theorem tab20 : Tryz.prog.underlying 20 = some Tryz.t20.desc ∧ Tryz.prog.info? 20 = some Tryz.t20 := ⟨by kernel_rfl, by kernel_rfl⟩
theorem tab21 : Tryz.prog.underlying 21 = some Tryz.t21.desc ∧ Tryz.prog.info? 21 = some Tryz.t21 := ⟨by kernel_rfl, by kernel_rfl⟩
theorem tab22 : Tryz.prog.underlying 22 = some Tryz.t22.desc ∧ Tryz.prog.info? 22 = some Tryz.t22 := ⟨by kernel_rfl, by kernel_rfl⟩
theorem tab23 : Tryz.prog.underlying 23 = some Tryz.t23.desc ∧ Tryz.prog.info? 23 = some Tryz.t23 := ⟨by kernel_rfl, by kernel_rfl⟩
theorem tab24 : Tryz.prog.underlying 24 = some Tryz.t24.desc ∧ Tryz.prog.info? 24 = some Tryz.t24 := ⟨by kernel_rfl, by kernel_rfl⟩
theorem tab25 : Tryz.prog.underlying 25 = some Tryz.t25.desc ∧ Tryz.prog.info? 25 = some Tryz.t25 := ⟨by kernel_rfl, by kernel_rfl⟩
theorem tab26 : Tryz.prog.underlying 26 = some Tryz.t3.desc ∧ Tryz.prog.info? 26 = some Tryz.t26 := ⟨by kernel_rfl, by kernel_rfl⟩
theorem tab28 : Tryz.prog.underlying 28 = some Tryz.t28.desc ∧ Tryz.prog.info? 28 = some Tryz.t28 := ⟨by kernel_rfl, by kernel_rfl⟩
theorem tab29 : Tryz.prog.underlying 29 = some Tryz.t29.desc ∧ Tryz.prog.info? 29 = some Tryz.t29 := ⟨by kernel_rfl, by kernel_rfl⟩
theorem tab31 : Tryz.prog.underlying 31 = some Tryz.t31.desc ∧ Tryz.prog.info? 31 = some Tryz.t31 := ⟨by kernel_rfl, by kernel_rfl⟩
theorem tab32 : Tryz.prog.underlying 32 = some Tryz.t32.desc ∧ Tryz.prog.info? 32 = some Tryz.t32 := ⟨by kernel_rfl, by kernel_rfl⟩
theorem tab33 : Tryz.prog.underlying 33 = some Tryz.t33.desc ∧ Tryz.prog.info? 33 = some Tryz.t33 := ⟨by kernel_rfl, by kernel_rfl⟩
theorem tab35 : Tryz.prog.underlying 35 = some Tryz.t35.desc ∧ Tryz.prog.info? 35 = some Tryz.t35 := ⟨by kernel_rfl, by kernel_rfl⟩
theorem tab36 : Tryz.prog.underlying 36 = some Tryz.t36.desc ∧ Tryz.prog.info? 36 = some Tryz.t36 := ⟨by kernel_rfl, by kernel_rfl⟩
theorem tab38 : Tryz.prog.underlying 38 = some Tryz.t38.desc ∧ Tryz.prog.info? 38 = some Tryz.t38 := ⟨by kernel_rfl, by kernel_rfl⟩
theorem tab39 : Tryz.prog.underlying 39 = some Tryz.t39.desc ∧ Tryz.prog.info? 39 = some Tryz.t39 := ⟨by kernel_rfl, by kernel_rfl⟩
theorem tab40 : Tryz.prog.underlying 40 = some Tryz.t40.desc ∧ Tryz.prog.info? 40 = some Tryz.t40 := ⟨by kernel_rfl, by kernel_rfl⟩
theorem tab41 : Tryz.prog.underlying 41 = some Tryz.t41.desc ∧ Tryz.prog.info? 41 = some Tryz.t41 := ⟨by kernel_rfl, by kernel_rfl⟩
theorem tab42 : Tryz.prog.underlying 42 = some Tryz.t41.desc ∧ Tryz.prog.info? 42 = some Tryz.t42 := ⟨by kernel_rfl, by kernel_rfl⟩
theorem tab43 : Tryz.prog.underlying 43 = some Tryz.t43.desc ∧ Tryz.prog.info? 43 = some Tryz.t43 := ⟨by kernel_rfl, by kernel_rfl⟩
theorem tab44 : Tryz.prog.underlying 44 = some Tryz.t44.desc ∧ Tryz.prog.info? 44 = some Tryz.t44 := ⟨by kernel_rfl, by kernel_rfl⟩
theorem tab45 : Tryz.prog.underlying 45 = some Tryz.t45.desc ∧ Tryz.prog.info? 45 = some Tryz.t45 := ⟨by kernel_rfl, by kernel_rfl⟩
theorem tab46 : Tryz.prog.underlying 46 = some Tryz.t46.desc ∧ Tryz.prog.info? 46 = some Tryz.t46 := ⟨by kernel_rfl, by kernel_rfl⟩
theorem tab47 : Tryz.prog.underlying 47 = some Tryz.t47.desc ∧ Tryz.prog.info? 47 = some Tryz.t47 := ⟨by kernel_rfl, by kernel_rfl⟩
theorem tab48 : Tryz.prog.underlying 48 = some Tryz.t47.desc ∧ Tryz.prog.info? 48 = some Tryz.t48 := ⟨by kernel_rfl, by kernel_rfl⟩
theorem tab49 : Tryz.prog.underlying 49 = some Tryz.t49.desc ∧ Tryz.prog.info? 49 = some Tryz.t49 := ⟨by kernel_rfl, by kernel_rfl⟩
theorem tab50 : Tryz.prog.underlying 50 = some Tryz.t50.desc ∧ Tryz.prog.info? 50 = some Tryz.t50 := ⟨by kernel_rfl, by kernel_rfl⟩
theorem tab51 : Tryz.prog.underlying 51 = some Tryz.t51.desc ∧ Tryz.prog.info? 51 = some Tryz.t51 := ⟨by kernel_rfl, by kernel_rfl⟩
theorem tab52 : Tryz.prog.underlying 52 = some Tryz.t51.desc ∧ Tryz.prog.info? 52 = some Tryz.t52 := ⟨by kernel_rfl, by kernel_rfl⟩
theorem tab53 : Tryz.prog.underlying 53 = some Tryz.t53.desc ∧ Tryz.prog.info? 53 = some Tryz.t53 := ⟨by kernel_rfl, by kernel_rfl⟩
theorem tab54 : Tryz.prog.underlying 54 = some Tryz.t54.desc ∧ Tryz.prog.info? 54 = some Tryz.t54 := ⟨by kernel_rfl, by kernel_rfl⟩
theorem tab55 : Tryz.prog.underlying 55 = some Tryz.t55.desc ∧ Tryz.prog.info? 55 = some Tryz.t55 := ⟨by kernel_rfl, by kernel_rfl⟩
theorem tab56 : Tryz.prog.underlying 56 = some Tryz.t55.desc ∧ Tryz.prog.info? 56 = some Tryz.t56 := ⟨by kernel_rfl, by kernel_rfl⟩
theorem tab57 : Tryz.prog.underlying 57 = some Tryz.t57.desc ∧ Tryz.prog.info? 57 = some Tryz.t57 := ⟨by kernel_rfl, by kernel_rfl⟩
theorem tab58 : Tryz.prog.underlying 58 = some Tryz.t58.desc ∧ Tryz.prog.info? 58 = some Tryz.t58 := ⟨by kernel_rfl, by kernel_rfl⟩
theorem tab59 : Tryz.prog.underlying 59 = some Tryz.t59.desc ∧ Tryz.prog.info? 59 = some Tryz.t59 := ⟨by kernel_rfl, by kernel_rfl⟩
theorem tab60 : Tryz.prog.underlying 60 = some Tryz.t60.desc ∧ Tryz.prog.info? 60 = some Tryz.t60 := ⟨by kernel_rfl, by kernel_rfl⟩
theorem tab61 : Tryz.prog.underlying 61 = some Tryz.t60.desc ∧ Tryz.prog.info? 61 = some Tryz.t61 := ⟨by kernel_rfl, by kernel_rfl⟩
theorem tab62 : Tryz.prog.underlying 62 = some Tryz.t62.desc ∧ Tryz.prog.info? 62 = some Tryz.t62 := ⟨by kernel_rfl, by kernel_rfl⟩
theorem tab64 : Tryz.prog.underlying 64 = some Tryz.t64.desc ∧ Tryz.prog.info? 64 = some Tryz.t64 := ⟨by kernel_rfl, by kernel_rfl⟩
theorem tab66 : Tryz.prog.underlying 66 = some Tryz.t66.desc ∧ Tryz.prog.info? 66 = some Tryz.t66 := ⟨by kernel_rfl, by kernel_rfl⟩
theorem tab67 : Tryz.prog.underlying 67 = some Tryz.t67.desc ∧ Tryz.prog.info? 67 = some Tryz.t67 := ⟨by kernel_rfl, by kernel_rfl⟩
theorem tab68 : Tryz.prog.underlying 68 = some Tryz.t67.desc ∧ Tryz.prog.info? 68 = some Tryz.t68 := ⟨by kernel_rfl, by kernel_rfl⟩
theorem tab69 : Tryz.prog.underlying 69 = some Tryz.t69.desc ∧ Tryz.prog.info? 69 = some Tryz.t69 := ⟨by kernel_rfl, by kernel_rfl⟩
theorem tab70 : Tryz.prog.underlying 70 = some Tryz.t70.desc ∧ Tryz.prog.info? 70 = some Tryz.t70 := ⟨by kernel_rfl, by kernel_rfl⟩
theorem tab71 : Tryz.prog.underlying 71 = some Tryz.t71.desc ∧ Tryz.prog.info? 71 = some Tryz.t71 := ⟨by kernel_rfl, by kernel_rfl⟩
theorem tab72 : Tryz.prog.underlying 72 = some Tryz.t71.desc ∧ Tryz.prog.info? 72 = some Tryz.t72 := ⟨by kernel_rfl, by kernel_rfl⟩
theorem tab73 : Tryz.prog.underlying 73 = some Tryz.t73.desc ∧ Tryz.prog.info? 73 = some Tryz.t73 := ⟨by kernel_rfl, by kernel_rfl⟩
theorem tab74 : Tryz.prog.underlying 74 = some Tryz.t74.desc ∧ Tryz.prog.info? 74 = some Tryz.t74 := ⟨by kernel_rfl, by kernel_rfl⟩
theorem tab75 : Tryz.prog.underlying 75 = some Tryz.t75.desc ∧ Tryz.prog.info? 75 = some Tryz.t75 := ⟨by kernel_rfl, by kernel_rfl⟩
theorem tab76 : Tryz.prog.underlying 76 = some Tryz.t76.desc ∧ Tryz.prog.info? 76 = some Tryz.t76 := ⟨by kernel_rfl, by kernel_rfl⟩
theorem tab77 : Tryz.prog.underlying 77 = some Tryz.t76.desc ∧ Tryz.prog.info? 77 = some Tryz.t77 := ⟨by kernel_rfl, by kernel_rfl⟩
theorem tab78 : Tryz.prog.underlying 78 = some Tryz.t78.desc ∧ Tryz.prog.info? 78 = some Tryz.t78 := ⟨by kernel_rfl, by kernel_rfl⟩
theorem tab79 : Tryz.prog.underlying 79 = some Tryz.t79.desc ∧ Tryz.prog.info? 79 = some Tryz.t79 := ⟨by kernel_rfl, by kernel_rfl⟩
theorem tab80 : Tryz.prog.underlying 80 = some Tryz.t80.desc ∧ Tryz.prog.info? 80 = some Tryz.t80 := ⟨by kernel_rfl, by kernel_rfl⟩
theorem tab81 : Tryz.prog.underlying 81 = some Tryz.t80.desc ∧ Tryz.prog.info? 81 = some Tryz.t81 := ⟨by kernel_rfl, by kernel_rfl⟩
theorem tab82 : Tryz.prog.underlying 82 = some Tryz.t82.desc ∧ Tryz.prog.info? 82 = some Tryz.t82 := ⟨by kernel_rfl, by kernel_rfl⟩
theorem tab83 : Tryz.prog.underlying 83 = some Tryz.t82.desc ∧ Tryz.prog.info? 83 = some Tryz.t83 := ⟨by kernel_rfl, by kernel_rfl⟩
theorem tab84 : Tryz.prog.underlying 84 = some Tryz.t84.desc ∧ Tryz.prog.info? 84 = some Tryz.t84 := ⟨by kernel_rfl, by kernel_rfl⟩
theorem tab85 : Tryz.prog.underlying 85 = some Tryz.t85.desc ∧ Tryz.prog.info? 85 = some Tryz.t85 := ⟨by kernel_rfl, by kernel_rfl⟩
theorem tab86 : Tryz.prog.underlying 86 = some Tryz.t86.desc ∧ Tryz.prog.info? 86 = some Tryz.t86 := ⟨by kernel_rfl, by kernel_rfl⟩
theorem tab87 : Tryz.prog.underlying 87 = some Tryz.t87.desc ∧ Tryz.prog.info? 87 = some Tryz.t87 := ⟨by kernel_rfl, by kernel_rfl⟩
theorem tab88 : Tryz.prog.underlying 88 = some Tryz.t88.desc ∧ Tryz.prog.info? 88 = some Tryz.t88 := ⟨by kernel_rfl, by kernel_rfl⟩
theorem tab89 : Tryz.prog.underlying 89 = some Tryz.t89.desc ∧ Tryz.prog.info? 89 = some Tryz.t89 := ⟨by kernel_rfl, by kernel_rfl⟩
theorem tab90 : Tryz.prog.underlying 90 = some Tryz.t90.desc ∧ Tryz.prog.info? 90 = some Tryz.t90 := ⟨by kernel_rfl, by kernel_rfl⟩
theorem tab91 : Tryz.prog.underlying 91 = some Tryz.t91.desc ∧ Tryz.prog.info? 91 = some Tryz.t91 := ⟨by kernel_rfl, by kernel_rfl⟩
theorem tab93 : Tryz.prog.underlying 93 = some Tryz.t93.desc ∧ Tryz.prog.info? 93 = some Tryz.t93 := ⟨by kernel_rfl, by kernel_rfl⟩
theorem tab95 : Tryz.prog.underlying 95 = some Tryz.t95.desc ∧ Tryz.prog.info? 95 = some Tryz.t95 := ⟨by kernel_rfl, by kernel_rfl⟩
theorem tab96 : Tryz.prog.underlying 96 = some Tryz.t96.desc ∧ Tryz.prog.info? 96 = some Tryz.t96 := ⟨by kernel_rfl, by kernel_rfl⟩
theorem tab97 : Tryz.prog.underlying 97 = some Tryz.t97.desc ∧ Tryz.prog.info? 97 = some Tryz.t97 := ⟨by kernel_rfl, by kernel_rfl⟩
theorem tab98 : Tryz.prog.underlying 98 = some Tryz.t98.desc ∧ Tryz.prog.info? 98 = some Tryz.t98 := ⟨by kernel_rfl, by kernel_rfl⟩
theorem tab99 : Tryz.prog.underlying 99 = some Tryz.t99.desc ∧ Tryz.prog.info? 99 = some Tryz.t99 := ⟨by kernel_rfl, by kernel_rfl⟩
theorem tab100 : Tryz.prog.underlying 100 = some Tryz.t100.desc ∧ Tryz.prog.info? 100 = some Tryz.t100 := ⟨by kernel_rfl, by kernel_rfl⟩
theorem tab101 : Tryz.prog.underlying 101 = some Tryz.t101.desc ∧ Tryz.prog.info? 101 = some Tryz.t101 := ⟨by kernel_rfl, by kernel_rfl⟩
theorem tab102 : Tryz.prog.underlying 102 = some Tryz.t102.desc ∧ Tryz.prog.info? 102 = some Tryz.t102 := ⟨by kernel_rfl, by kernel_rfl⟩
theorem tab103 : Tryz.prog.underlying 103 = some Tryz.t103.desc ∧ Tryz.prog.info? 103 = some Tryz.t103 := ⟨by kernel_rfl, by kernel_rfl⟩
theorem tab104 : Tryz.prog.underlying 104 = some Tryz.t104.desc ∧ Tryz.prog.info? 104 = some Tryz.t104 := ⟨by kernel_rfl, by kernel_rfl⟩
theorem tab106 : Tryz.prog.underlying 106 = some Tryz.t106.desc ∧ Tryz.prog.info? 106 = some Tryz.t106 := ⟨by kernel_rfl, by kernel_rfl⟩
theorem tab107 : Tryz.prog.underlying 107 = some Tryz.t107.desc ∧ Tryz.prog.info? 107 = some Tryz.t107 := ⟨by kernel_rfl, by kernel_rfl⟩
theorem tab108 : Tryz.prog.underlying 108 = some Tryz.t108.desc ∧ Tryz.prog.info? 108 = some Tryz.t108 := ⟨by kernel_rfl, by kernel_rfl⟩
theorem tab109 : Tryz.prog.underlying 109 = some Tryz.t109.desc ∧ Tryz.prog.info? 109 = some Tryz.t109 := ⟨by kernel_rfl, by kernel_rfl⟩
theorem tab110 : Tryz.prog.underlying 110 = some Tryz.t110.desc ∧ Tryz.prog.info? 110 = some Tryz.t110 := ⟨by kernel_rfl, by kernel_rfl⟩
theorem tab111 : Tryz.prog.underlying 111 = some Tryz.t110.desc ∧ Tryz.prog.info? 111 = some Tryz.t111 := ⟨by kernel_rfl, by kernel_rfl⟩
theorem tab112 : Tryz.prog.underlying 112 = some Tryz.t112.desc ∧ Tryz.prog.info? 112 = some Tryz.t112 := ⟨by kernel_rfl, by kernel_rfl⟩
theorem tab113 : Tryz.prog.underlying 113 = some Tryz.t113.desc ∧ Tryz.prog.info? 113 = some Tryz.t113 := ⟨by kernel_rfl, by kernel_rfl⟩
theorem tab114 : Tryz.prog.underlying 114 = some Tryz.t113.desc ∧ Tryz.prog.info? 114 = some Tryz.t114 := ⟨by kernel_rfl, by kernel_rfl⟩
theorem tab115 : Tryz.prog.underlying 115 = some Tryz.t115.desc ∧ Tryz.prog.info? 115 = some Tryz.t115 := ⟨by kernel_rfl, by kernel_rfl⟩
theorem tab116 : Tryz.prog.underlying 116 = some Tryz.t116.desc ∧ Tryz.prog.info? 116 = some Tryz.t116 := ⟨by kernel_rfl, by kernel_rfl⟩
theorem tab117 : Tryz.prog.underlying 117 = some Tryz.t117.desc ∧ Tryz.prog.info? 117 = some Tryz.t117 := ⟨by kernel_rfl, by kernel_rfl⟩
theorem tab118 : Tryz.prog.underlying 118 = some Tryz.t118.desc ∧ Tryz.prog.info? 118 = some Tryz.t118 := ⟨by kernel_rfl, by kernel_rfl⟩
theorem tab119 : Tryz.prog.underlying 119 = some Tryz.t119.desc ∧ Tryz.prog.info? 119 = some Tryz.t119 := ⟨by kernel_rfl, by kernel_rfl⟩
theorem tab120 : Tryz.prog.underlying 120 = some Tryz.t120.desc ∧ Tryz.prog.info? 120 = some Tryz.t120 := ⟨by kernel_rfl, by kernel_rfl⟩
theorem tab122 : Tryz.prog.underlying 122 = some Tryz.t122.desc ∧ Tryz.prog.info? 122 = some Tryz.t122 := ⟨by kernel_rfl, by kernel_rfl⟩
theorem tab123 : Tryz.prog.underlying 123 = some Tryz.t123.desc ∧ Tryz.prog.info? 123 = some Tryz.t123 := ⟨by kernel_rfl, by kernel_rfl⟩
theorem tab124 : Tryz.prog.underlying 124 = some Tryz.t124.desc ∧ Tryz.prog.info? 124 = some Tryz.t124 := ⟨by kernel_rfl, by kernel_rfl⟩
theorem tab125 : Tryz.prog.underlying 125 = some Tryz.t125.desc ∧ Tryz.prog.info? 125 = some Tryz.t125 := ⟨by kernel_rfl, by kernel_rfl⟩
theorem tab126 : Tryz.prog.underlying 126 = some Tryz.t126.desc ∧ Tryz.prog.info? 126 = some Tryz.t126 := ⟨by kernel_rfl, by kernel_rfl⟩
theorem tab127 : Tryz.prog.underlying 127 = some Tryz.t127.desc ∧ Tryz.prog.info? 127 = some Tryz.t127 := ⟨by kernel_rfl, by kernel_rfl⟩
theorem tab128 : Tryz.prog.underlying 128 = some Tryz.t128.desc ∧ Tryz.prog.info? 128 = some Tryz.t128 := ⟨by kernel_rfl, by kernel_rfl⟩
theorem tab129 : Tryz.prog.underlying 129 = some Tryz.t129.desc ∧ Tryz.prog.info? 129 = some Tryz.t129 := ⟨by kernel_rfl, by kernel_rfl⟩
theorem tab130 : Tryz.prog.underlying 130 = some Tryz.t130.desc ∧ Tryz.prog.info? 130 = some Tryz.t130 := ⟨by kernel_rfl, by kernel_rfl⟩
theorem tab131 : Tryz.prog.underlying 131 = some Tryz.t131.desc ∧ Tryz.prog.info? 131 = some Tryz.t131 := ⟨by kernel_rfl, by kernel_rfl⟩
theorem tab132 : Tryz.prog.underlying 132 = some Tryz.t132.desc ∧ Tryz.prog.info? 132 = some Tryz.t132 := ⟨by kernel_rfl, by kernel_rfl⟩
theorem tab134 : Tryz.prog.underlying 134 = some Tryz.t134.desc ∧ Tryz.prog.info? 134 = some Tryz.t134 := ⟨by kernel_rfl, by kernel_rfl⟩
theorem tab136 : Tryz.prog.underlying 136 = some Tryz.t136.desc ∧ Tryz.prog.info? 136 = some Tryz.t136 := ⟨by kernel_rfl, by kernel_rfl⟩
theorem tab138 : Tryz.prog.underlying 138 = some Tryz.t138.desc ∧ Tryz.prog.info? 138 = some Tryz.t138 := ⟨by kernel_rfl, by kernel_rfl⟩
theorem tab139 : Tryz.prog.underlying 139 = some Tryz.t139.desc ∧ Tryz.prog.info? 139 = some Tryz.t139 := ⟨by kernel_rfl, by kernel_rfl⟩
theorem tab140 : Tryz.prog.underlying 140 = some Tryz.t140.desc ∧ Tryz.prog.info? 140 = some Tryz.t140 := ⟨by kernel_rfl, by kernel_rfl⟩
theorem tab141 : Tryz.prog.underlying 141 = some Tryz.t141.desc ∧ Tryz.prog.info? 141 = some Tryz.t141 := ⟨by kernel_rfl, by kernel_rfl⟩
theorem tab142 : Tryz.prog.underlying 142 = some Tryz.t142.desc ∧ Tryz.prog.info? 142 = some Tryz.t142 := ⟨by kernel_rfl, by kernel_rfl⟩
theorem tab143 : Tryz.prog.underlying 143 = some Tryz.t143.desc ∧ Tryz.prog.info? 143 = some Tryz.t143 := ⟨by kernel_rfl, by kernel_rfl⟩
theorem tab144 : Tryz.prog.underlying 144 = some Tryz.t144.desc ∧ Tryz.prog.info? 144 = some Tryz.t144 := ⟨by kernel_rfl, by kernel_rfl⟩
theorem tab146 : Tryz.prog.underlying 146 = some Tryz.t146.desc ∧ Tryz.prog.info? 146 = some Tryz.t146 := ⟨by kernel_rfl, by kernel_rfl⟩
theorem tab148 : Tryz.prog.underlying 148 = some Tryz.t148.desc ∧ Tryz.prog.info? 148 = some Tryz.t148 := ⟨by kernel_rfl, by kernel_rfl⟩
theorem tab149 : Tryz.prog.underlying 149 = some Tryz.t149.desc ∧ Tryz.prog.info? 149 = some Tryz.t149 := ⟨by kernel_rfl, by kernel_rfl⟩
theorem tab150 : Tryz.prog.underlying 150 = some Tryz.t3.desc ∧ Tryz.prog.info? 150 = some Tryz.t150 := ⟨by kernel_rfl, by kernel_rfl⟩
theorem tab152 : Tryz.prog.underlying 152 = some Tryz.t152.desc ∧ Tryz.prog.info? 152 = some Tryz.t152 := ⟨by kernel_rfl, by kernel_rfl⟩
theorem tab153 : Tryz.prog.underlying 153 = some Tryz.t153.desc ∧ Tryz.prog.info? 153 = some Tryz.t153 := ⟨by kernel_rfl, by kernel_rfl⟩
theorem tab154 : Tryz.prog.underlying 154 = some Tryz.t154.desc ∧ Tryz.prog.info? 154 = some Tryz.t154 := ⟨by kernel_rfl, by kernel_rfl⟩
theorem tab155 : Tryz.prog.underlying 155 = some Tryz.t155.desc ∧ Tryz.prog.info? 155 = some Tryz.t155 := ⟨by kernel_rfl, by kernel_rfl⟩
theorem tab157 : Tryz.prog.underlying 157 = some Tryz.t157.desc ∧ Tryz.prog.info? 157 = some Tryz.t157 := ⟨by kernel_rfl, by kernel_rfl⟩
theorem tab158 : Tryz.prog.underlying 158 = some Tryz.t158.desc ∧ Tryz.prog.info? 158 = some Tryz.t158 := ⟨by kernel_rfl, by kernel_rfl⟩
theorem tab159 : Tryz.prog.underlying 159 = some Tryz.t159.desc ∧ Tryz.prog.info? 159 = some Tryz.t159 := ⟨by kernel_rfl, by kernel_rfl⟩
theorem tab160 : Tryz.prog.underlying 160 = some Tryz.t117.desc ∧ Tryz.prog.info? 160 = some Tryz.t160 := ⟨by kernel_rfl, by kernel_rfl⟩
theorem tab161 : Tryz.prog.underlying 161 = some Tryz.t161.desc ∧ Tryz.prog.info? 161 = some Tryz.t161 := ⟨by kernel_rfl, by kernel_rfl⟩
theorem tab162 : Tryz.prog.underlying 162 = some Tryz.t162.desc ∧ Tryz.prog.info? 162 = some Tryz.t162 := ⟨by kernel_rfl, by kernel_rfl⟩
theorem tab163 : Tryz.prog.underlying 163 = some Tryz.t163.desc ∧ Tryz.prog.info? 163 = some Tryz.t163 := ⟨by kernel_rfl, by kernel_rfl⟩
theorem tab164 : Tryz.prog.underlying 164 = some Tryz.t164.desc ∧ Tryz.prog.info? 164 = some Tryz.t164 := ⟨by kernel_rfl, by kernel_rfl⟩
theorem tab165 : Tryz.prog.underlying 165 = some Tryz.t165.desc ∧ Tryz.prog.info? 165 = some Tryz.t165 := ⟨by kernel_rfl, by kernel_rfl⟩
theorem tab166 : Tryz.prog.underlying 166 = some Tryz.t166.desc ∧ Tryz.prog.info? 166 = some Tryz.t166 := ⟨by kernel_rfl, by kernel_rfl⟩
theorem tab168 : Tryz.prog.underlying 168 = some Tryz.t168.desc ∧ Tryz.prog.info? 168 = some Tryz.t168 := ⟨by kernel_rfl, by kernel_rfl⟩
theorem tab169 : Tryz.prog.underlying 169 = some Tryz.t169.desc ∧ Tryz.prog.info? 169 = some Tryz.t169 := ⟨by kernel_rfl, by kernel_rfl⟩
theorem tab170 : Tryz.prog.underlying 170 = some Tryz.t170.desc ∧ Tryz.prog.info? 170 = some Tryz.t170 := ⟨by kernel_rfl, by kernel_rfl⟩
theorem tab171 : Tryz.prog.underlying 171 = some Tryz.t170.desc ∧ Tryz.prog.info? 171 = some Tryz.t171 := ⟨by kernel_rfl, by kernel_rfl⟩
theorem tab172 : Tryz.prog.underlying 172 = some Tryz.t172.desc ∧ Tryz.prog.info? 172 = some Tryz.t172 := ⟨by kernel_rfl, by kernel_rfl⟩
theorem tab173 : Tryz.prog.underlying 173 = some Tryz.t173.desc ∧ Tryz.prog.info? 173 = some Tryz.t173 := ⟨by kernel_rfl, by kernel_rfl⟩
theorem tab174 : Tryz.prog.underlying 174 = some Tryz.t173.desc ∧ Tryz.prog.info? 174 = some Tryz.t174 := ⟨by kernel_rfl, by kernel_rfl⟩
theorem tab175 : Tryz.prog.underlying 175 = some Tryz.t5.desc ∧ Tryz.prog.info? 175 = some Tryz.t175 := ⟨by kernel_rfl, by kernel_rfl⟩
theorem tab176 : Tryz.prog.underlying 176 = some Tryz.t5.desc ∧ Tryz.prog.info? 176 = some Tryz.t176 := ⟨by kernel_rfl, by kernel_rfl⟩
theorem tab177 : Tryz.prog.underlying 177 = some Tryz.t177.desc ∧ Tryz.prog.info? 177 = some Tryz.t177 := ⟨by kernel_rfl, by kernel_rfl⟩
theorem tab178 : Tryz.prog.underlying 178 = some Tryz.t178.desc ∧ Tryz.prog.info? 178 = some Tryz.t178 := ⟨by kernel_rfl, by kernel_rfl⟩
theorem tab179 : Tryz.prog.underlying 179 = some Tryz.t21.desc ∧ Tryz.prog.info? 179 = some Tryz.t179 := ⟨by kernel_rfl, by kernel_rfl⟩
theorem tab180 : Tryz.prog.underlying 180 = some Tryz.t21.desc ∧ Tryz.prog.info? 180 = some Tryz.t180 := ⟨by kernel_rfl, by kernel_rfl⟩
theorem tab181 : Tryz.prog.underlying 181 = some Tryz.t181.desc ∧ Tryz.prog.info? 181 = some Tryz.t181 := ⟨by kernel_rfl, by kernel_rfl⟩
theorem tab182 : Tryz.prog.underlying 182 = some Tryz.t181.desc ∧ Tryz.prog.info? 182 = some Tryz.t182 := ⟨by kernel_rfl, by kernel_rfl⟩
theorem tab183 : Tryz.prog.underlying 183 = some Tryz.t183.desc ∧ Tryz.prog.info? 183 = some Tryz.t183 := ⟨by kernel_rfl, by kernel_rfl⟩
noncomputable def tab : Tr := (.node 89 ⟨Tryz.t89.desc, Tryz.t89⟩ (.node 46 ⟨Tryz.t46.desc, Tryz.t46⟩ (.node 21 ⟨Tryz.t21.desc, Tryz.t21⟩ (.node 11 ⟨Tryz.t9.desc, Tryz.t11⟩ (.node 6 ⟨Tryz.t5.desc, Tryz.t6⟩ (.node 3 ⟨Tryz.t3.desc, Tryz.t3⟩ (.node 2 ⟨Tryz.t2.desc, Tryz.t2⟩ (.node 1 ⟨Tryz.t1.desc, Tryz.t1⟩ .leaf .leaf) .leaf) (.node 5 ⟨Tryz.t5.desc, Tryz.t5⟩ (.node 4 ⟨Tryz.t4.desc, Tryz.t4⟩ .leaf .leaf) .leaf)) (.node 9 ⟨Tryz.t9.desc, Tryz.t9⟩ (.node 8 ⟨Tryz.t7.desc, Tryz.t8⟩ (.node 7 ⟨Tryz.t7.desc, Tryz.t7⟩ .leaf .leaf) .leaf) (.node 10 ⟨Tryz.t9.desc, Tryz.t10⟩ .leaf .leaf))) (.node 16 ⟨Tryz.t16.desc, Tryz.t16⟩ (.node 14 ⟨Tryz.t13.desc, Tryz.t14⟩ (.node 13 ⟨Tryz.t13.desc, Tryz.t13⟩ (.node 12 ⟨Tryz.t12.desc, Tryz.t12⟩ .leaf .leaf) .leaf) (.node 15 ⟨Tryz.t15.desc, Tryz.t15⟩ .leaf .leaf)) (.node 19 ⟨Tryz.t18.desc, Tryz.t19⟩ (.node 18 ⟨Tryz.t18.desc, Tryz.t18⟩ (.node 17 ⟨Tryz.t17.desc, Tryz.t17⟩ .leaf .leaf) .leaf) (.node 20 ⟨Tryz.t20.desc, Tryz.t20⟩ .leaf .leaf)))) (.node 35 ⟨Tryz.t35.desc, Tryz.t35⟩ (.node 28 ⟨Tryz.t28.desc, Tryz.t28⟩ (.node 24 ⟨Tryz.t24.desc, Tryz.t24⟩ (.node 23 ⟨Tryz.t23.desc, Tryz.t23⟩ (.node 22 ⟨Tryz.t22.desc, Tryz.t22⟩ .leaf .leaf) .leaf) (.node 26 ⟨Tryz.t3.desc, Tryz.t26⟩ (.node 25 ⟨Tryz.t25.desc, Tryz.t25⟩ .leaf .leaf) .leaf)) (.node 32 ⟨Tryz.t32.desc, Tryz.t32⟩ (.node 31 ⟨Tryz.t31.desc, Tryz.t31⟩ (.node 29 ⟨Tryz.t29.desc, Tryz.t29⟩ .leaf .leaf) .leaf) (.node 33 ⟨Tryz.t33.desc, Tryz.t33⟩ .leaf .leaf))) (.node 41 ⟨Tryz.t41.desc, Tryz.t41⟩ (.node 39 ⟨Tryz.t39.desc, Tryz.t39⟩ (.node 38 ⟨Tryz.t38.desc, Tryz.t38⟩ (.node 36 ⟨Tryz.t36.desc, Tryz.t36⟩ .leaf .leaf) .leaf) (.node 40 ⟨Tryz.t40.desc, Tryz.t40⟩ .leaf .leaf)) (.node 44 ⟨Tryz.t44.desc, Tryz.t44⟩ (.node 43 ⟨Tryz.t43.desc, Tryz.t43⟩ (.node 42 ⟨Tryz.t41.desc, Tryz.t42⟩ .leaf .leaf) .leaf) (.node 45 ⟨Tryz.t45.desc, Tryz.t45⟩ .leaf .leaf))))) (.node 69 ⟨Tryz.t69.desc, Tryz.t69⟩ (.node 57 ⟨Tryz.t57.desc, Tryz.t57⟩ (.node 52 ⟨Tryz.t51.desc, Tryz.t52⟩ (.node 49 ⟨Tryz.t49.desc, Tryz.t49⟩ (.node 48 ⟨Tryz.t47.desc, Tryz.t48⟩ (.node 47 ⟨Tryz.t47.desc, Tryz.t47⟩ .leaf .leaf) .leaf) (.node 51 ⟨Tryz.t51.desc, Tryz.t51⟩ (.node 50 ⟨Tryz.t50.desc, Tryz.t50⟩ .leaf .leaf) .leaf)) (.node 55 ⟨Tryz.t55.desc, Tryz.t55⟩ (.node 54 ⟨Tryz.t54.desc, Tryz.t54⟩ (.node 53 ⟨Tryz.t53.desc, Tryz.t53⟩ .leaf .leaf) .leaf) (.node 56 ⟨Tryz.t55.desc, Tryz.t56⟩ .leaf .leaf))) (.node 62 ⟨Tryz.t62.desc, Tryz.t62⟩ (.node 60 ⟨Tryz.t60.desc, Tryz.t60⟩ (.node 59 ⟨Tryz.t59.desc, Tryz.t59⟩ (.node 58 ⟨Tryz.t58.desc, Tryz.t58⟩ .leaf .leaf) .leaf) (.node 61 ⟨Tryz.t60.desc, Tryz.t61⟩ .leaf .leaf)) (.node 67 ⟨Tryz.t67.desc, Tryz.t67⟩ (.node 66 ⟨Tryz.t66.desc, Tryz.t66⟩ (.node 64 ⟨Tryz.t64.desc, Tryz.t64⟩ .leaf .leaf) .leaf) (.node 68 ⟨Tryz.t67.desc, Tryz.t68⟩ .leaf .leaf)))) (.node 79 ⟨Tryz.t79.desc, Tryz.t79⟩ (.node 74 ⟨Tryz.t74.desc, Tryz.t74⟩ (.node 72 ⟨Tryz.t71.desc, Tryz.t72⟩ (.node 71 ⟨Tryz.t71.desc, Tryz.t71⟩ (.node 70 ⟨Tryz.t70.desc, Tryz.t70⟩ .leaf .leaf) .leaf) (.node 73 ⟨Tryz.t73.desc, Tryz.t73⟩ .leaf .leaf)) (.node 77 ⟨Tryz.t76.desc, Tryz.t77⟩ (.node 76 ⟨Tryz.t76.desc, Tryz.t76⟩ (.node 75 ⟨Tryz.t75.desc, Tryz.t75⟩ .leaf .leaf) .leaf) (.node 78 ⟨Tryz.t78.desc, Tryz.t78⟩ .leaf .leaf))) (.node 84 ⟨Tryz.t84.desc, Tryz.t84⟩ (.node 82 ⟨Tryz.t82.desc, Tryz.t82⟩ (.node 81 ⟨Tryz.t80.desc, Tryz.t81⟩ (.node 80 ⟨Tryz.t80.desc, Tryz.t80⟩ .leaf .leaf) .leaf) (.node 83 ⟨Tryz.t82.desc, Tryz.t83⟩ .leaf .leaf)) (.node 87 ⟨Tryz.t87.desc, Tryz.t87⟩ (.node 86 ⟨Tryz.t86.desc, Tryz.t86⟩ (.node 85 ⟨Tryz.t85.desc, Tryz.t85⟩ .leaf .leaf) .leaf) (.node 88 ⟨Tryz.t88.desc, Tryz.t88⟩ .leaf .leaf)))))) (.node 138 ⟨Tryz.t138.desc, Tryz.t138⟩ (.node 113 ⟨Tryz.t113.desc, Tryz.t113⟩ (.node 102 ⟨Tryz.t102.desc, Tryz.t102⟩ (.node 97 ⟨Tryz.t97.desc, Tryz.t97⟩ (.node 93 ⟨Tryz.t93.desc, Tryz.t93⟩ (.node 91 ⟨Tryz.t91.desc, Tryz.t91⟩ (.node 90 ⟨Tryz.t90.desc, Tryz.t90⟩ .leaf .leaf) .leaf) (.node 96 ⟨Tryz.t96.desc, Tryz.t96⟩ (.node 95 ⟨Tryz.t95.desc, Tryz.t95⟩ .leaf .leaf) .leaf)) (.node 100 ⟨Tryz.t100.desc, Tryz.t100⟩ (.node 99 ⟨Tryz.t99.desc, Tryz.t99⟩ (.node 98 ⟨Tryz.t98.desc, Tryz.t98⟩ .leaf .leaf) .leaf) (.node 101 ⟨Tryz.t101.desc, Tryz.t101⟩ .leaf .leaf))) (.node 108 ⟨Tryz.t108.desc, Tryz.t108⟩ (.node 106 ⟨Tryz.t106.desc, Tryz.t106⟩ (.node 104 ⟨Tryz.t104.desc, Tryz.t104⟩ (.node 103 ⟨Tryz.t103.desc, Tryz.t103⟩ .leaf .leaf) .leaf) (.node 107 ⟨Tryz.t107.desc, Tryz.t107⟩ .leaf .leaf)) (.node 111 ⟨Tryz.t110.desc, Tryz.t111⟩ (.node 110 ⟨Tryz.t110.desc, Tryz.t110⟩ (.node 109 ⟨Tryz.t109.desc, Tryz.t109⟩ .leaf .leaf) .leaf) (.node 112 ⟨Tryz.t112.desc, Tryz.t112⟩ .leaf .leaf)))) (.node 125 ⟨Tryz.t125.desc, Tryz.t125⟩ (.node 119 ⟨Tryz.t119.desc, Tryz.t119⟩ (.node 116 ⟨Tryz.t116.desc, Tryz.t116⟩ (.node 115 ⟨Tryz.t115.desc, Tryz.t115⟩ (.node 114 ⟨Tryz.t113.desc, Tryz.t114⟩ .leaf .leaf) .leaf) (.node 118 ⟨Tryz.t118.desc, Tryz.t118⟩ (.node 117 ⟨Tryz.t117.desc, Tryz.t117⟩ .leaf .leaf) .leaf)) (.node 123 ⟨Tryz.t123.desc, Tryz.t123⟩ (.node 122 ⟨Tryz.t122.desc, Tryz.t122⟩ (.node 120 ⟨Tryz.t120.desc, Tryz.t120⟩ .leaf .leaf) .leaf) (.node 124 ⟨Tryz.t124.desc, Tryz.t124⟩ .leaf .leaf))) (.node 130 ⟨Tryz.t130.desc, Tryz.t130⟩ (.node 128 ⟨Tryz.t128.desc, Tryz.t128⟩ (.node 127 ⟨Tryz.t127.desc, Tryz.t127⟩ (.node 126 ⟨Tryz.t126.desc, Tryz.t126⟩ .leaf .leaf) .leaf) (.node 129 ⟨Tryz.t129.desc, Tryz.t129⟩ .leaf .leaf)) (.node 134 ⟨Tryz.t134.desc, Tryz.t134⟩ (.node 132 ⟨Tryz.t132.desc, Tryz.t132⟩ (.node 131 ⟨Tryz.t131.desc, Tryz.t131⟩ .leaf .leaf) .leaf) (.node 136 ⟨Tryz.t136.desc, Tryz.t136⟩ .leaf .leaf))))) (.node 163 ⟨Tryz.t163.desc, Tryz.t163⟩ (.node 152 ⟨Tryz.t152.desc, Tryz.t152⟩ (.node 144 ⟨Tryz.t144.desc, Tryz.t144⟩ (.node 141 ⟨Tryz.t141.desc, Tryz.t141⟩ (.node 140 ⟨Tryz.t140.desc, Tryz.t140⟩ (.node 139 ⟨Tryz.t139.desc, Tryz.t139⟩ .leaf .leaf) .leaf) (.node 143 ⟨Tryz.t143.desc, Tryz.t143⟩ (.node 142 ⟨Tryz.t142.desc, Tryz.t142⟩ .leaf .leaf) .leaf)) (.node 149 ⟨Tryz.t149.desc, Tryz.t149⟩ (.node 148 ⟨Tryz.t148.desc, Tryz.t148⟩ (.node 146 ⟨Tryz.t146.desc, Tryz.t146⟩ .leaf .leaf) .leaf) (.node 150 ⟨Tryz.t3.desc, Tryz.t150⟩ .leaf .leaf))) (.node 158 ⟨Tryz.t158.desc, Tryz.t158⟩ (.node 155 ⟨Tryz.t155.desc, Tryz.t155⟩ (.node 154 ⟨Tryz.t154.desc, Tryz.t154⟩ (.node 153 ⟨Tryz.t153.desc, Tryz.t153⟩ .leaf .leaf) .leaf) (.node 157 ⟨Tryz.t157.desc, Tryz.t157⟩ .leaf .leaf)) (.node 161 ⟨Tryz.t161.desc, Tryz.t161⟩ (.node 160 ⟨Tryz.t117.desc, Tryz.t160⟩ (.node 159 ⟨Tryz.t159.desc, Tryz.t159⟩ .leaf .leaf) .leaf) (.node 162 ⟨Tryz.t162.desc, Tryz.t162⟩ .leaf .leaf)))) (.node 174 ⟨Tryz.t173.desc, Tryz.t174⟩ (.node 169 ⟨Tryz.t169.desc, Tryz.t169⟩ (.node 166 ⟨Tryz.t166.desc, Tryz.t166⟩ (.node 165 ⟨Tryz.t165.desc, Tryz.t165⟩ (.node 164 ⟨Tryz.t164.desc, Tryz.t164⟩ .leaf .leaf) .leaf) (.node 168 ⟨Tryz.t168.desc, Tryz.t168⟩ .leaf .leaf)) (.node 172 ⟨Tryz.t172.desc, Tryz.t172⟩ (.node 171 ⟨Tryz.t170.desc, Tryz.t171⟩ (.node 170 ⟨Tryz.t170.desc, Tryz.t170⟩ .leaf .leaf) .leaf) (.node 173 ⟨Tryz.t173.desc, Tryz.t173⟩ .leaf .leaf))) (.node 179 ⟨Tryz.t21.desc, Tryz.t179⟩ (.node 177 ⟨Tryz.t177.desc, Tryz.t177⟩ (.node 176 ⟨Tryz.t5.desc, Tryz.t176⟩ (.node 175 ⟨Tryz.t5.desc, Tryz.t175⟩ .leaf .leaf) .leaf) (.node 178 ⟨Tryz.t178.desc, Tryz.t178⟩ .leaf .leaf)) (.node 182 ⟨Tryz.t181.desc, Tryz.t182⟩ (.node 181 ⟨Tryz.t181.desc, Tryz.t181⟩ (.node 180 ⟨Tryz.t21.desc, Tryz.t180⟩ .leaf .leaf) .leaf) (.node 183 ⟨Tryz.t183.desc, Tryz.t183⟩ .leaf .leaf)))))))
instance tabOk : TabOk Tryz.prog tab := ⟨⟨tab89, ⟨tab46, ⟨tab21, ⟨tab11, ⟨tab6, ⟨tab3, ⟨tab2, ⟨tab1, trivial, trivial⟩, trivial⟩, ⟨tab5, ⟨tab4, trivial, trivial⟩, trivial⟩⟩, ⟨tab9, ⟨tab8, ⟨tab7, trivial, trivial⟩, trivial⟩, ⟨tab10, trivial, trivial⟩⟩⟩, ⟨tab16, ⟨tab14, ⟨tab13, ⟨tab12, trivial, trivial⟩, trivial⟩, ⟨tab15, trivial, trivial⟩⟩, ⟨tab19, ⟨tab18, ⟨tab17, trivial, trivial⟩, trivial⟩, ⟨tab20, trivial, trivial⟩⟩⟩⟩, ⟨tab35, ⟨tab28, ⟨tab24, ⟨tab23, ⟨tab22, trivial, trivial⟩, trivial⟩, ⟨tab26, ⟨tab25, trivial, trivial⟩, trivial⟩⟩, ⟨tab32, ⟨tab31, ⟨tab29, trivial, trivial⟩, trivial⟩, ⟨tab33, trivial, trivial⟩⟩⟩, ⟨tab41, ⟨tab39, ⟨tab38, ⟨tab36, trivial, trivial⟩, trivial⟩, ⟨tab40, trivial, trivial⟩⟩, ⟨tab44, ⟨tab43, ⟨tab42, trivial, trivial⟩, trivial⟩, ⟨tab45, trivial, trivial⟩⟩⟩⟩⟩, ⟨tab69, ⟨tab57, ⟨tab52, ⟨tab49, ⟨tab48, ⟨tab47, trivial, trivial⟩, trivial⟩, ⟨tab51, ⟨tab50, trivial, trivial⟩, trivial⟩⟩, ⟨tab55, ⟨tab54, ⟨tab53, trivial, trivial⟩, trivial⟩, ⟨tab56, trivial, trivial⟩⟩⟩, ⟨tab62, ⟨tab60, ⟨tab59, ⟨tab58, trivial, trivial⟩, trivial⟩, ⟨tab61, trivial, trivial⟩⟩, ⟨tab67, ⟨tab66, ⟨tab64, trivial, trivial⟩, trivial⟩, ⟨tab68, trivial, trivial⟩⟩⟩⟩, ⟨tab79, ⟨tab74, ⟨tab72, ⟨tab71, ⟨tab70, trivial, trivial⟩, trivial⟩, ⟨tab73, trivial, trivial⟩⟩, ⟨tab77, ⟨tab76, ⟨tab75, trivial, trivial⟩, trivial⟩, ⟨tab78, trivial, trivial⟩⟩⟩, ⟨tab84, ⟨tab82, ⟨tab81, ⟨tab80, trivial, trivial⟩, trivial⟩, ⟨tab83, trivial, trivial⟩⟩, ⟨tab87, ⟨tab86, ⟨tab85, trivial, trivial⟩, trivial⟩, ⟨tab88, trivial, trivial⟩⟩⟩⟩⟩⟩, ⟨tab138, ⟨tab113, ⟨tab102, ⟨tab97, ⟨tab93, ⟨tab91, ⟨tab90, trivial, trivial⟩, trivial⟩, ⟨tab96, ⟨tab95, trivial, trivial⟩, trivial⟩⟩, ⟨tab100, ⟨tab99, ⟨tab98, trivial, trivial⟩, trivial⟩, ⟨tab101, trivial, trivial⟩⟩⟩, ⟨tab108, ⟨tab106, ⟨tab104, ⟨tab103, trivial, trivial⟩, trivial⟩, ⟨tab107, trivial, trivial⟩⟩, ⟨tab111, ⟨tab110, ⟨tab109, trivial, trivial⟩, trivial⟩, ⟨tab112, trivial, trivial⟩⟩⟩⟩, ⟨tab125, ⟨tab119, ⟨tab116, ⟨tab115, ⟨tab114, trivial, trivial⟩, trivial⟩, ⟨tab118, ⟨tab117, trivial, trivial⟩, trivial⟩⟩, ⟨tab123, ⟨tab122, ⟨tab120, trivial, trivial⟩, trivial⟩, ⟨tab124, trivial, trivial⟩⟩⟩, ⟨tab130, ⟨tab128, ⟨tab127, ⟨tab126, trivial, trivial⟩, trivial⟩, ⟨tab129, trivial, trivial⟩⟩, ⟨tab134, ⟨tab132, ⟨tab131, trivial, trivial⟩, trivial⟩, ⟨tab136, trivial, trivial⟩⟩⟩⟩⟩, ⟨tab163, ⟨tab152, ⟨tab144, ⟨tab141, ⟨tab140, ⟨tab139, trivial, trivial⟩, trivial⟩, ⟨tab143, ⟨tab142, trivial, trivial⟩, trivial⟩⟩, ⟨tab149, ⟨tab148, ⟨tab146, trivial, trivial⟩, trivial⟩, ⟨tab150, trivial, trivial⟩⟩⟩, ⟨tab158, ⟨tab155, ⟨tab154, ⟨tab153, trivial, trivial⟩, trivial⟩, ⟨tab157, trivial, trivial⟩⟩, ⟨tab161, ⟨tab160, ⟨tab159, trivial, trivial⟩, trivial⟩, ⟨tab162, trivial, trivial⟩⟩⟩⟩, ⟨tab174, ⟨tab169, ⟨tab166, ⟨tab165, ⟨tab164, trivial, trivial⟩, trivial⟩, ⟨tab168, trivial, trivial⟩⟩, ⟨tab172, ⟨tab171, ⟨tab170, trivial, trivial⟩, trivial⟩, ⟨tab173, trivial, trivial⟩⟩⟩, ⟨tab179, ⟨tab177, ⟨tab176, ⟨tab175, trivial, trivial⟩, trivial⟩, ⟨tab178, trivial, trivial⟩⟩, ⟨tab182, ⟨tab181, ⟨tab180, trivial, trivial⟩, trivial⟩, ⟨tab183, trivial, trivial⟩⟩⟩⟩⟩⟩⟩⟩
theorem mixed : Tryz.prog.follows .mixedOrders = true := by kernel_rfl
theorem go {A B : Prop} (a : A) (h : Hold A → B := by (intro h; (repeat' (first | refine J_adv (U := tab) rfl ?_ | (refine J_isG ?_; first | refine J_guardT rfl rfl rfl rfl ?_ | refine J_guardF rfl rfl rfl rfl rfl rfl rfl ?_ | refine J_guardU rfl rfl rfl rfl rfl rfl ?_ | refine J_guardF0 rfl rfl rfl rfl rfl rfl ?_) | (refine J_isLoad ?_; first | refine J_load (U := tab) 0 rfl rfl rfl rfl rfl rfl ?_ | refine J_load (U := tab) 1 rfl rfl rfl rfl rfl rfl ?_ | refine J_load (U := tab) 2 rfl rfl rfl rfl rfl rfl ?_ | refine J_load (U := tab) 3 rfl rfl rfl rfl rfl rfl ?_ | refine J_load (U := tab) 4 rfl rfl rfl rfl rfl rfl ?_ | refine J_load (U := tab) 5 rfl rfl rfl rfl rfl rfl ?_ | refine J_loadH (U := tab) 0 rfl rfl rfl rfl rfl rfl ?_ | refine J_loadH (U := tab) 1 rfl rfl rfl rfl rfl rfl ?_ | refine J_loadH (U := tab) 2 rfl rfl rfl rfl rfl rfl ?_) | (refine J_isPick ?_; first | refine J_pickT rfl rfl rfl ?_ | refine J_pickF rfl rfl rfl ?_) | (refine J_isBin ?_; first | refine J_add rfl rfl rfl (by simp only [inK]; omega) ?_ | refine J_sub' rfl rfl rfl (by simp only [inK]; omega) ?_) | (refine J_isConv ?_; refine J_conv (U := tab) rfl rfl rfl rfl rfl rfl (by simp only [inK]; omega) ?_) | (refine J_isStore ?_; first | refine J_store (U := tab) 0 (fun _ _ => trivial) rfl rfl rfl rfl rfl rfl rfl rfl rfl ?_ | refine J_store (U := tab) 1 (fun _ _ => trivial) rfl rfl rfl rfl rfl rfl rfl rfl rfl ?_ | refine J_store (U := tab) 2 (fun _ _ => trivial) rfl rfl rfl rfl rfl rfl rfl rfl rfl ?_ | refine J_store (U := tab) 3 (fun _ _ => trivial) rfl rfl rfl rfl rfl rfl rfl rfl rfl ?_) | refine J_end ?_ | refine K_regionA rfl ?_ | refine K_condT rfl rfl ?_ | refine K_condF rfl rfl ?_)); exact h.out)) : B := h ⟨a⟩
theorem go1 {A B : Prop} (a : A) (h : Hold A → B := by (intro h; (first | refine J_adv (U := tab) rfl ?_ | (refine J_isG ?_; first | refine J_guardT rfl rfl rfl rfl ?_ | refine J_guardF rfl rfl rfl rfl rfl rfl rfl ?_ | refine J_guardU rfl rfl rfl rfl rfl rfl ?_ | refine J_guardF0 rfl rfl rfl rfl rfl rfl ?_) | (refine J_isLoad ?_; first | refine J_load (U := tab) 0 rfl rfl rfl rfl rfl rfl ?_ | refine J_load (U := tab) 1 rfl rfl rfl rfl rfl rfl ?_ | refine J_load (U := tab) 2 rfl rfl rfl rfl rfl rfl ?_ | refine J_load (U := tab) 3 rfl rfl rfl rfl rfl rfl ?_ | refine J_load (U := tab) 4 rfl rfl rfl rfl rfl rfl ?_ | refine J_load (U := tab) 5 rfl rfl rfl rfl rfl rfl ?_ | refine J_loadH (U := tab) 0 rfl rfl rfl rfl rfl rfl ?_ | refine J_loadH (U := tab) 1 rfl rfl rfl rfl rfl rfl ?_ | refine J_loadH (U := tab) 2 rfl rfl rfl rfl rfl rfl ?_) | (refine J_isPick ?_; first | refine J_pickT rfl rfl rfl ?_ | refine J_pickF rfl rfl rfl ?_) | (refine J_isBin ?_; first | refine J_add rfl rfl rfl (by simp only [inK]; omega) ?_ | refine J_sub' rfl rfl rfl (by simp only [inK]; omega) ?_) | (refine J_isConv ?_; refine J_conv (U := tab) rfl rfl rfl rfl rfl rfl (by simp only [inK]; omega) ?_) | (refine J_isStore ?_; first | refine J_store (U := tab) 0 (fun _ _ => trivial) rfl rfl rfl rfl rfl rfl rfl rfl rfl ?_ | refine J_store (U := tab) 1 (fun _ _ => trivial) rfl rfl rfl rfl rfl rfl rfl rfl rfl ?_ | refine J_store (U := tab) 2 (fun _ _ => trivial) rfl rfl rfl rfl rfl rfl rfl rfl rfl ?_ | refine J_store (U := tab) 3 (fun _ _ => trivial) rfl rfl rfl rfl rfl rfl rfl rfl rfl ?_) | refine J_end ?_ | refine K_regionA rfl ?_ | refine K_condT rfl rfl ?_ | refine K_condF rfl rfl ?_); (repeat' (first | refine J_adv (U := tab) rfl ?_ | (refine J_isG ?_; first | refine J_guardT rfl rfl rfl rfl ?_ | refine J_guardF rfl rfl rfl rfl rfl rfl rfl ?_ | refine J_guardU rfl rfl rfl rfl rfl rfl ?_ | refine J_guardF0 rfl rfl rfl rfl rfl rfl ?_) | (refine J_isLoad ?_; first | refine J_load (U := tab) 0 rfl rfl rfl rfl rfl rfl ?_ | refine J_load (U := tab) 1 rfl rfl rfl rfl rfl rfl ?_ | refine J_load (U := tab) 2 rfl rfl rfl rfl rfl rfl ?_ | refine J_load (U := tab) 3 rfl rfl rfl rfl rfl rfl ?_ | refine J_load (U := tab) 4 rfl rfl rfl rfl rfl rfl ?_ | refine J_load (U := tab) 5 rfl rfl rfl rfl rfl rfl ?_ | refine J_loadH (U := tab) 0 rfl rfl rfl rfl rfl rfl ?_ | refine J_loadH (U := tab) 1 rfl rfl rfl rfl rfl rfl ?_ | refine J_loadH (U := tab) 2 rfl rfl rfl rfl rfl rfl ?_) | (refine J_isPick ?_; first | refine J_pickT rfl rfl rfl ?_ | refine J_pickF rfl rfl rfl ?_) | (refine J_isBin ?_; first | refine J_add rfl rfl rfl (by simp only [inK]; omega) ?_ | refine J_sub' rfl rfl rfl (by simp only [inK]; omega) ?_) | (refine J_isConv ?_; refine J_conv (U := tab) rfl rfl rfl rfl rfl rfl (by simp only [inK]; omega) ?_) | (refine J_isStore ?_; first | refine J_store (U := tab) 0 (fun _ _ => trivial) rfl rfl rfl rfl rfl rfl rfl rfl rfl ?_ | refine J_store (U := tab) 1 (fun _ _ => trivial) rfl rfl rfl rfl rfl rfl rfl rfl rfl ?_ | refine J_store (U := tab) 2 (fun _ _ => trivial) rfl rfl rfl rfl rfl rfl rfl rfl rfl ?_ | refine J_store (U := tab) 3 (fun _ _ => trivial) rfl rfl rfl rfl rfl rfl rfl rfl rfl ?_) | refine J_end ?_ | refine K_regionA rfl ?_ | refine K_condT rfl rfl ?_ | refine K_condF rfl rfl ?_)); exact h.out)) : B := h ⟨a⟩
theorem goR {A B : Prop} (a : A) (h : Hold A → B := by (intro h; (repeat' (first | refine J_adv (U := tab) rfl ?_ | (refine J_isG ?_; first | refine J_guardT rfl rfl rfl rfl ?_ | refine J_guardF rfl rfl rfl rfl rfl rfl rfl ?_ | refine J_guardU rfl rfl rfl rfl rfl rfl ?_ | refine J_guardF0 rfl rfl rfl rfl rfl rfl ?_) | (refine J_isLoad ?_; first | refine J_load (U := tab) 0 rfl rfl rfl rfl rfl rfl ?_ | refine J_load (U := tab) 1 rfl rfl rfl rfl rfl rfl ?_ | refine J_load (U := tab) 2 rfl rfl rfl rfl rfl rfl ?_ | refine J_load (U := tab) 3 rfl rfl rfl rfl rfl rfl ?_ | refine J_load (U := tab) 4 rfl rfl rfl rfl rfl rfl ?_ | refine J_load (U := tab) 5 rfl rfl rfl rfl rfl rfl ?_ | refine J_loadH (U := tab) 0 rfl rfl rfl rfl rfl rfl ?_ | refine J_loadH (U := tab) 1 rfl rfl rfl rfl rfl rfl ?_ | refine J_loadH (U := tab) 2 rfl rfl rfl rfl rfl rfl ?_) | (refine J_isPick ?_; first | refine J_pickT rfl rfl rfl ?_ | refine J_pickF rfl rfl rfl ?_) | (refine J_isBin ?_; first | refine J_add rfl rfl rfl (by simp only [inK]; omega) ?_ | refine J_sub' rfl rfl rfl (by simp only [inK]; omega) ?_) | (refine J_isConv ?_; refine J_conv (U := tab) rfl rfl rfl rfl rfl rfl (by simp only [inK]; omega) ?_) | (refine J_isStore ?_; first | refine J_store (U := tab) 0 (fun _ _ => trivial) rfl rfl rfl rfl rfl rfl rfl rfl rfl ?_ | refine J_store (U := tab) 1 (fun _ _ => trivial) rfl rfl rfl rfl rfl rfl rfl rfl rfl ?_ | refine J_store (U := tab) 2 (fun _ _ => trivial) rfl rfl rfl rfl rfl rfl rfl rfl rfl ?_ | refine J_store (U := tab) 3 (fun _ _ => trivial) rfl rfl rfl rfl rfl rfl rfl rfl rfl ?_) | refine J_end ?_)); exact h.out)) : B := h ⟨a⟩
end Go.Proofs.YtpdmbmnhgcnelaaGreat

/- slices.Clone at bytes. -/
set_option linter.unusedVariables false
set_option linter.unusedSimpArgs false
namespace Go.Proofs.YtpdmbmnhgcnelaaGreat
open Go Go.SL
attribute [local irreducible] J K Ctr Ends pts slc mapR mapI sbRow

theorem Clone_bytes (A : HP) (v : Value) (bs : List UInt8) (hv : Vw A v bs.length (bV bs)) (hlen : bs.length ≤ 1000000000) :
    Ctr Tryz.prog 49 [v] [A] (fun r H => H = [slc 5 1 r bs.length (bV bs), A]) := by
  obtain ⟨a, c0, rfl⟩ := hv.shape
  cases a with
  | none =>
    have hb : bs = [] := by
      obtain ⟨a, cap, h1, h2 | ⟨b, o, h2, _⟩⟩ := hv
      · simpa [bV] using h2
      · simp only [Value.slice.injEq] at h1; rw [← h1.1] at h2; cases h2
    subst hb
    refine Ctr.enter Tryz.func49 (by kernel_rfl) rfl Tryz.ntmps49 rfl rfl ?_
    intro G F R hR
    (refine go ?_)
    have he : c0 = c0 := rfl
    refine K_ent (slc_lift 5 1 none _) ?_
    refine K_return hR Tryz.func49 rfl _ rfl rfl (Ent.fin [0, 1] 0 rfl rfl)
  | some a =>
    refine Ctr.enter Tryz.func49 (by kernel_rfl) rfl Tryz.ntmps49 rfl rfl ?_
    intro G F R hR
    (refine go ?_)
    refine J_buildSlice1 (U := tab) rfl rfl rfl rfl rfl rfl rfl rfl rfl (fun _ _ _ => trivial) ?_
    intro b0
    (refine go ?_)
    refine J_ent (slc_row 5 1 b0 0 0 [] [] _ rfl (Nat.le_refl _) (by simp)) ?_
    refine J_append (U := tab) (mm := bs.length) (news := bV bs) 0 1 rfl rfl rfl rfl rfl rfl rfl rfl rfl rfl rfl rfl hv (by show _ = _ * 1; rw [bV_length]; omega) (bV_one bs) (by omega) (by show _ * 1 ≤ _; omega) (fun _ => rfl) (fun _ _ _ => trivial) ?_
    intro v'
    have e1 : (0 : Nat) + bs.length = bs.length := by omega
    rw [e1, List.nil_append]
    (refine go ?_)
    refine K_return hR Tryz.func49 rfl _ rfl rfl (Ent.fin [0, 1] 0 rfl rfl)

end Go.Proofs.YtpdmbmnhgcnelaaGreat

/- files, part a: small functions of package files, without the disk's own predicate. -/
set_option linter.unusedVariables false
set_option linter.unusedSimpArgs false
namespace Go.Proofs.YtpdmbmnhgcnelaaGreat
open Go Go.SL
attribute [local irreducible] J K Ctr Ends pts slc mapR mapI sbRow

/-- New. -/
theorem files_New_bad (room : Int) (h : room < 1 ∨ 1073741824 < room) : Ctr Tryz.prog 6 [.int .i64 room] [] (fun v H => v = .tuple #[.pointer none, .int .i64 1] ∧ H = []) := by
  refine Ctr.enter Tryz.func6 (by kernel_rfl) rfl Tryz.ntmps6 rfl rfl ?_
  intro G F R hR
  (refine go ?_)
  refine J_gsP rfl rfl rfl rfl ?_ ?_
  · intro h1
    (refine go ?_)
    refine K_return hR Tryz.func6 rfl _ rfl ⟨rfl, rfl⟩ (Ent.fin [] 0 rfl rfl)
  · intro h1
    (refine go ?_)
    refine K_condP rfl rfl ?_ ?_
    · intro h2
      (refine go ?_)
      refine K_return hR Tryz.func6 rfl _ rfl ⟨rfl, rfl⟩ (Ent.fin [] 0 rfl rfl)
    · intro h2; exfalso; omega

/-- slices.IndexFunc at bytes. -/
theorem IndexFunc_bytes (A X : HP) (v : Value) (bs : List UInt8) (hv : Vw A v bs.length (bV bs)) (hlen : bs.length ≤ 9223372036854775807) (g : FuncId) (cap : List Value) (p : UInt8 → Bool)
    (hf : ∀ x ∈ bs, Ctr Tryz.prog g (u8 x :: cap) [X] (fun v H => v = .bool (p x) ∧ H = [X])) :
    Ctr Tryz.prog 117 [v, .func (.func g) #[] cap.toArray] [A, X] (fun r H => r = .int .i64 (idxI p bs) ∧ H = [A, X]) := by
  obtain ⟨a, c0, rfl⟩ := hv.shape
  refine Ctr.enter Tryz.func117 (by kernel_rfl) rfl Tryz.ntmps117 rfl rfl ?_
  intro G F R hR
  (refine go ?_)
  refine K_loop (fun i : Nat => i ≤ bs.length ∧ ∀ y ∈ bs.take i, p y = false) (fun i => bs.length - i) (fun i => [(0, .slice a bs.length c0), (1, .func (.func g) #[] cap.toArray), (7, .int .i64 bs.length), (8, .int .i64 i)]) (fun _ => [A, X] ++ F) 0 ⟨by simp, by simp⟩ rfl (by repeat (first | exact keep_nil | refine keep_cons rfl ?_)) (Ent.refl _) ?_
  rintro i ⟨hi, hb⟩ ih
  (refine go ?_)
  refine K_condP rfl rfl ?_ ?_
  · intro hlt
    (refine go ?_)
    have hi' : i < bs.length := by omega
    obtain ⟨b, o, cap', hsl⟩ := hv.some (by rw [← List.length_pos_iff, bV_length]; omega)
    simp only [Value.slice.injEq] at hsl
    obtain ⟨rfl, _, rfl⟩ := hsl
    refine J_at1 (U := tab) i rfl rfl rfl rfl rfl rfl rfl rfl hi' ?_
    have hx : bs[i]? = some bs[i] := by simp [hi']
    refine J_loadV (U := tab) 0 rfl rfl rfl (hv.cell (bV_get hx)) rfl rfl ?_
    refine J_call [1] rfl rfl rfl rfl (hf bs[i] (List.getElem_mem hi')) rfl (fun _ _ _ _ _ => trivial) ?_
    rintro _ _ ⟨rfl, rfl⟩
    (refine go ?_)
    refine K_condA rfl rfl ?_ ?_
    · intro hp
      (refine go ?_)
      refine K_return hR Tryz.func117 rfl _ rfl ⟨by rw [idxI_some hx hp hb]; rfl, rfl⟩ (Ent.fin [1, 0] 0 rfl rfl)
    · intro hp
      (refine go ?_)
      refine K_again ih (i + 1) rfl ⟨by omega, allTake hb hx hp⟩ (by omega) (by repeat (first | exact keep_nil | refine keep_cons rfl ?_)) (Ent.pick [1, 0] rfl)
  · intro hge
    (refine go ?_)
    have : i = bs.length := by omega
    subst this
    refine K_return hR Tryz.func117 rfl _ rfl ⟨by rw [idxI_none (fun x hx => hb x (by simpa using hx))]; rfl, rfl⟩ (Ent.fin [0, 1] 0 rfl rfl)
/-- A sign that a name may have. -/
def okc (x : UInt8) : Bool := decide (97 ≤ x.toNat ∧ x.toNat ≤ 122 ∨ 48 ≤ x.toNat ∧ x.toNat ≤ 57 ∨ x.toNat = 45 ∨ x.toNat = 46)
theorem okc_of {x : UInt8} {p : Prop} [Decidable p] (h : p ↔ ¬ (97 ≤ x.toNat ∧ x.toNat ≤ 122 ∨ 48 ≤ x.toNat ∧ x.toNat ≤ 57 ∨ x.toNat = 45 ∨ x.toNat = 46)) : decide p = !okc x := by
  unfold okc; rw [← decide_not]; exact decide_eq_decide.2 h
theorem right_odd (X : HP) (x : UInt8) : Ctr Tryz.prog 106 [u8 x] [X] (fun v H => v = .bool (!okc x) ∧ H = [X]) := by
  refine Ctr.enter Tryz.func106 (by kernel_rfl) rfl Tryz.ntmps106 rfl rfl ?_
  intro G F R hR
  have hx := u8_lt x
  repeat' (first | (with_reducible intro _hh) | refine go1 ?_ | refine J_fork ?_ ?_ | refine J_gsP rfl rfl rfl rfl ?_ ?_ | refine K_condP rfl rfl ?_ ?_)
  all_goals refine K_return hR Tryz.func106 rfl _ rfl ⟨congrArg Value.bool (by rw [Bool.eq_iff_iff]; simp [okc]; omega), rfl⟩ (Ent.fin [0] 0 rfl rfl)

theorem ContainsFunc_bytes (A X : HP) (v : Value) (bs : List UInt8) (hv : Vw A v bs.length (bV bs)) (hlen : bs.length ≤ 9223372036854775807) (g : FuncId) (cap : List Value) (p : UInt8 → Bool)
    (hf : ∀ x ∈ bs, Ctr Tryz.prog g (u8 x :: cap) [X] (fun v H => v = .bool (p x) ∧ H = [X])) :
    Ctr Tryz.prog 107 [v, .func (.func g) #[] cap.toArray] [A, X] (fun r H => r = .bool (bs.any p) ∧ H = [A, X]) := by
  refine Ctr.enter Tryz.func107 (by kernel_rfl) rfl Tryz.ntmps107 rfl rfl ?_
  intro G F R hR
  (refine go ?_)
  refine J_call [0, 1] rfl rfl rfl rfl (IndexFunc_bytes A X v bs hv hlen g cap p hf) rfl (fun _ _ _ _ _ => trivial) ?_
  rintro _ _ ⟨rfl, rfl⟩
  (refine go ?_)
  have hb : decide (0 ≤ idxI p bs) = bs.any p := by
    have := @idxI_neg _ p bs
    cases h : bs.any p with
    | false => rw [h] at this; exact decide_eq_false (by have := this.2 rfl; omega)
    | true =>
      rw [h] at this
      have h2 : ¬ idxI p bs < 0 := fun h3 => by cases this.1 h3
      exact decide_eq_true (by omega)
  refine K_return hR Tryz.func107 rfl _ rfl ⟨congrArg Value.bool hb, rfl⟩ (Ent.fin [0, 1] 0 rfl rfl)
def isName (s : ByteArray) : Bool := decide (1 ≤ s.size ∧ s.size ≤ 80) && s.data.toList.all okc
theorem isName_of {s : ByteArray} (h1 : 1 ≤ s.size) (h2 : s.size ≤ 80) : isName s = !(s.data.toList.any fun x => !okc x) := by
  simp [isName, h1, h2, List.all_eq_not_any_not]
theorem isName_short {s : ByteArray} (h1 : s.size < 1) : isName s = false := by simp [isName]; omega
theorem isName_long {s : ByteArray} (h1 : 80 < s.size) : isName s = false := by simp [isName]; omega

theorem right_any (A : HP) (v : Value) (l : List ByteArray) (hv : Vw A v l.length (l.map Value.string)) (hlen : l.length ≤ 1000000) :
    Ctr Tryz.prog 82 [v] [A] (fun r H => r = .bool (l.all isName) ∧ H = [A]) := by
  obtain ⟨a, c0, rfl⟩ := hv.shape
  refine Ctr.enter Tryz.func82 (by kernel_rfl) rfl Tryz.ntmps82 rfl rfl ?_
  intro G F R hR
  refine K_ent (Ent.addEmp _) ?_
  (refine go ?_)
  refine K_loop (fun i : Nat => i ≤ l.length ∧ ∀ y ∈ l.take i, isName y = true) (fun i => l.length - i) (fun i => [(3, .func (.func 106) #[] #[]), (6, .slice a l.length c0), (7, .int .i64 l.length), (8, .int .i64 i)]) (fun _ => emp :: ([A] ++ F)) 0 ⟨by simp, by simp⟩ rfl (by repeat (first | exact keep_nil | refine keep_cons rfl ?_)) (Ent.refl _) ?_
  rintro i ⟨hi, hb⟩ ih
  (refine go ?_)
  refine K_condP rfl rfl ?_ ?_
  · intro hlt
    (refine go ?_)
    have hi' : i < l.length := by omega
    obtain ⟨b, o, cap', hsl⟩ := hv.some (by rw [← List.length_pos_iff, List.length_map]; omega)
    simp only [Value.slice.injEq] at hsl
    obtain ⟨rfl, _, rfl⟩ := hsl
    refine J_at1 (U := tab) i rfl rfl rfl rfl rfl rfl rfl rfl hi' ?_
    obtain ⟨s, hs⟩ : ∃ s, l[i]? = some s := ⟨l[i], by simp [hi']⟩
    refine J_loadV (U := tab) 1 rfl rfl rfl (hv.cell (c := .string s) (by simp [hs])) rfl rfl ?_
    have hmem : s ∈ l := List.mem_of_getElem? hs
    repeat' (first | (with_reducible intro _hh) | refine go1 ?_ | refine J_fork ?_ ?_ | refine J_gsP rfl rfl rfl rfl ?_ ?_ | refine K_condP rfl rfl ?_ ?_)
    · have hn : l.all isName = false := by
        rw [← Bool.not_eq_true, List.all_eq_true]; intro h
        have h1 := h s hmem; rw [isName_short (by omega)] at h1; cases h1
      refine K_return hR Tryz.func82 rfl _ rfl ⟨congrArg Value.bool hn.symm, rfl⟩ (Ent.fin [1] 1 rfl rfl)
    · have hn : l.all isName = false := by
        rw [← Bool.not_eq_true, List.all_eq_true]; intro h
        have h1 := h s hmem; rw [isName_long (by omega)] at h1; cases h1
      refine K_return hR Tryz.func82 rfl _ rfl ⟨congrArg Value.bool hn.symm, rfl⟩ (Ent.fin [1] 1 rfl rfl)
    · have hnm := isName_of (s := s) (by omega) (by omega)
      refine J_toBytes (U := tab) rfl rfl rfl rfl rfl rfl rfl rfl (fun _ _ _ _ => trivial) ?_
      intro bb cc
      (refine go ?_)
      refine J_call [0, 1] rfl rfl rfl rfl (ContainsFunc_bytes (sbRow bb s _ cc) emp _ s.data.toList (by simpa using sbRow_view bb s _ cc cc) (by simp; omega) _ [] _ (fun x _ => right_odd emp x)) rfl (fun _ _ _ _ _ => trivial) ?_
      rintro _ _ ⟨rfl, rfl⟩
      (refine go ?_)
      refine K_condA rfl rfl ?_ ?_
      · intro ht
        (refine go ?_)
        have hn : l.all isName = false := by
          rw [← Bool.not_eq_true, List.all_eq_true]; intro h
          have h1 := h s hmem; rw [hnm, ht] at h1; cases h1
        refine K_return hR Tryz.func82 rfl _ rfl ⟨congrArg Value.bool hn.symm, rfl⟩ (Ent.fin [2] 2 rfl rfl)
      · intro hf
        (refine go ?_)
        refine K_again ih (i + 1) rfl ⟨by omega, allTake hb hs (by rw [hnm, hf]; rfl)⟩ (by omega) (by repeat (first | exact keep_nil | refine keep_cons rfl ?_)) (Ent.to [1, 2] 1 rfl rfl rfl)
  · intro hge
    (refine go ?_)
    have : i = l.length := by omega
    subst this
    refine K_return hR Tryz.func82 rfl _ rfl ⟨congrArg Value.bool (by rw [eq_comm, List.all_eq_true]; intro x hx; exact hb x (by simpa using hx)), rfl⟩ (Ent.fin [1] 1 rfl rfl)

/-- wrote: bytes with others at a place. -/
theorem wrote_any (A : HP) (v1 v2 : Value) (old b : List UInt8) (at_ : Nat) (h1 : Vw A v1 old.length (bV old)) (h2 : Vw A v2 b.length (bV b)) (hb : old.length + at_ + b.length ≤ 1000000000) :
    Ctr Tryz.prog 30 [v1, .int .i64 at_, v2] [A] (fun r H => ∃ bl cap, r = .slice (some ⟨bl, 0, none⟩) (wroteL old at_ b).length cap ∧ (wroteL old at_ b).length ≤ cap ∧ H = [pts bl (cl (bV (wroteL old at_ b)) 5), A]) := by
  obtain ⟨a1, c1, rfl⟩ := h1.shape
  obtain ⟨a2, c2, rfl⟩ := h2.shape
  refine Ctr.enter Tryz.func30 (by kernel_rfl) rfl Tryz.ntmps30 rfl rfl ?_
  intro G F R hR
  (refine go ?_)
  have hN : (max old.length (at_ + b.length) : Nat) = max old.length (at_ + b.length) := rfl
  generalize hM : max old.length (at_ + b.length) = M at *
  refine J_slot 14 (.int .i64 (M : Int)) rfl (congrArg (Value.int .i64) (by omega)) ?_
  refine J_makeSlice (U := tab) (p := M) (q := M) rfl rfl rfl rfl rfl rfl rfl rfl rfl (Nat.le_refl _) (by omega) (by show 1 * M ≤ _; omega) (fun _ _ _ => trivial) ?_
  intro bl
  (refine go ?_)
  refine J_copy (U := tab) (src := bV old) (mm := old.length) (l' := bV (old ++ List.replicate (M - old.length) 0)) 0 1 rfl rfl rfl rfl rfl rfl rfl rfl h1 (by show _ = _ * 1; rw [bV_length]; omega) (bV_one old) (by show 0 + _ * 1 ≤ _; simp; omega) ?_ rfl (fun _ _ => trivial) ?_
  · show bV (old ++ List.replicate (M - old.length) 0) = List.take 0 (List.replicate M (Value.int .u8 0)) ++ List.take (min old.length M * 1) (bV old) ++ List.drop (0 + min old.length M * 1) (List.replicate M (Value.int .u8 0))
    have e : min old.length M * 1 = old.length := by omega
    rw [e, List.take_of_length_le (l := bV old) (by rw [bV_length]; omega)]
    simp [bV, u8]
  (refine go ?_)
  refine J_slice (U := tab) rfl rfl rfl rfl rfl rfl rfl (by omega) (by omega) (.inl rfl) ?_
  intro o' ho1 ho2
  have hA : at_ ≠ M → o' = at_ := fun h => by have := ho1 (by simpa using h); rw [this]; show 0 + (at_ : Int).toNat * 1 = at_; simp
  have hB : at_ = M → o' = 0 := fun h => ho2 (by simpa using h)
  clear ho1 ho2
  have hmin : (min b.length ((M : Int).toNat - (at_ : Int).toNat)) * 1 = b.length := by simp; omega
  (refine go ?_)
  refine J_copy (U := tab) (src := bV b) (mm := b.length) (l' := bV (wroteL old at_ b)) 0 1 rfl rfl rfl rfl rfl rfl rfl rfl h2 (by show _ = _ * 1; rw [bV_length]; omega) (bV_one b) ?_ ?_ rfl (fun _ _ => trivial) ?_
  · show o' + (min b.length ((M : Int).toNat - (at_ : Int).toNat)) * 1 ≤ _
    rw [hmin]; simp only [bV_length, List.length_append, List.length_replicate]
    by_cases h : at_ = M
    · have := hB h; omega
    · have := hA h; omega
  · show bV (wroteL old at_ b) = List.take o' _ ++ List.take (min b.length ((M : Int).toNat - (at_ : Int).toNat) * 1) (bV b) ++ List.drop (o' + min b.length ((M : Int).toNat - (at_ : Int).toNat) * 1) _
    rw [hmin, List.take_of_length_le (l := bV b) (by rw [bV_length]; omega)]
    have hrep : at_ + b.length - old.length = M - old.length := by omega
    unfold wroteL
    rw [hrep]
    by_cases h : at_ = M
    · have h3 := hB h
      have h4 : b = [] := List.eq_nil_of_length_eq_zero (by omega)
      subst h4; subst h3
      simp [bV, h]
    · rw [hA h]
      simp [bV]
  · have hl : (wroteL old at_ b).length = M := by unfold wroteL; simp; omega
    rw [← hl]
    (refine go ?_)
    refine K_return hR Tryz.func30 rfl _ rfl ⟨bl, _, rfl, Nat.le_refl _, rfl⟩ (Ent.fin [0, 1] 0 rfl rfl)
end Go.Proofs.YtpdmbmnhgcnelaaGreat

/- files, part b: how a disk lies in memory; meet, find. -/
set_option linter.unusedVariables false
set_option linter.unusedSimpArgs false
namespace Go.Proofs.YtpdmbmnhgcnelaaGreat
open Go Go.SL
attribute [local irreducible] J K Ctr Ends pts slc mapR mapI sbRow stock arrS

def ptrs (l : List (ByteArray × Nat)) : List (ByteArray × Value) := l.map fun x => (x.1, ptr x.2)
structure Dk where
  room : Nat
  bm : Nat
  sts : Value
  wrs : Value
  pln : Value
  off : Bool
  maps : List (Nat × List (ByteArray × Value))
  arrs : Arrs
  files : List (Nat × Value × Value)
  stb : List Nat
  wl : List (Nat × Nat × Value)
def mapG (x : Nat × List (ByteArray × Value)) : HP := mapR Value.string x.1 x.2
def fileG (x : Nat × Value × Value) : HP := pts x.1 (cl [x.2.1, x.2.2] 81)
def wcells (l : List (Nat × Nat × Value)) : List Value := l.flatMap fun x => [ptr x.1, .int .i64 x.2.1, x.2.2]
def diskL (bd : Nat) (D : Dk) : List HP :=
  [pts bd (cl [.int .i64 D.room, .map (some D.bm), D.sts, D.wrs, D.pln, .bool D.off] 56), stock mapG D.maps, arrS 5 D.arrs, stock fileG D.files,
   slc 52 1 D.sts D.stb.length (D.stb.map fun b => .map (some b)), slc 77 3 D.wrs D.wl.length (wcells D.wl)]
def disk (bd : Nat) (D : Dk) : HP := Sep (diskL bd D)
theorem disk_open (bd : Nat) (D : Dk) (H : List HP) : Ent (disk bd D :: H) (diskL bd D ++ H) := Ent.unsep _ _
theorem disk_close (bd : Nat) (D : Dk) (H : List HP) : Ent (diskL bd D ++ H) (disk bd D :: H) := Ent.resep _ _

theorem disk_o (bd room bm : Nat) (sts wrs pln : Value) (off : Bool) (maps : List (Nat × List (ByteArray × Value))) (arrs : Arrs) (files : List (Nat × Value × Value)) (stb : List Nat) (wl : List (Nat × Nat × Value)) (H : List HP) :
    Ent (disk bd ⟨room, bm, sts, wrs, pln, off, maps, arrs, files, stb, wl⟩ :: H)
      (pts bd (cl [.int .i64 room, .map (some bm), sts, wrs, pln, .bool off] 56) :: stock mapG maps :: arrS 5 arrs :: stock fileG files :: slc 52 1 sts stb.length (stb.map fun b => .map (some b)) :: slc 77 3 wrs wl.length (wcells wl) :: H) := Ent.unsep _ _
theorem disk_c (bd room bm : Nat) (sts wrs pln : Value) (off : Bool) (maps : List (Nat × List (ByteArray × Value))) (arrs : Arrs) (files : List (Nat × Value × Value)) (stb : List Nat) (wl : List (Nat × Nat × Value)) (H : List HP) :
    Ent (pts bd (cl [.int .i64 room, .map (some bm), sts, wrs, pln, .bool off] 56) :: stock mapG maps :: arrS 5 arrs :: stock fileG files :: slc 52 1 sts stb.length (stb.map fun b => .map (some b)) :: slc 77 3 wrs wl.length (wcells wl) :: H)
      (disk bd ⟨room, bm, sts, wrs, pln, off, maps, arrs, files, stb, wl⟩ :: H) := Ent.resep (diskL bd ⟨room, bm, sts, wrs, pln, off, maps, arrs, files, stb, wl⟩) H

structure Rel (D : Dk) (A : Ab) : Prop where
  room : D.room = A.room
  off : D.off = A.off
  names : (D.bm, ptrs A.names) ∈ D.maps
  states : All2 (fun b es => (b, ptrs es) ∈ D.maps) D.stb A.states
  fs : All2 (fun x y => x.1 = y.1 ∧ BIn D.arrs x.2.1 y.2.1 ∧ BIn D.arrs x.2.2 y.2.2) D.files A.fs
  writes : All2 (fun x y => x.1 = y.1 ∧ x.2.1 = y.2.1 ∧ BIn D.arrs x.2.2 y.2.2) D.wl A.writes
  plan : BIn D.arrs D.pln A.plan
  ids : (A.fs.map (·.1)).Nodup
  known : ∀ st ∈ A.names :: A.states, ∀ x ∈ st, x.2 ∈ A.fs.map (·.1)
  knownW : ∀ x ∈ A.writes, x.1 ∈ A.fs.map (·.1)
  nodup : ∀ st ∈ A.names :: A.states, (st.map (·.1)).Nodup
  smallF : ∀ x ∈ A.fs, x.2.1.length ≤ 1048576 ∧ x.2.2.length ≤ 1048576
  smallW : ∀ x ∈ A.writes, x.2.1 + x.2.2.length ≤ 1048576
  smallN : ∀ st ∈ A.names :: A.states, st.length ≤ 200
  smallR : A.room ≤ 1073741824
  smallP : A.plan.length ≤ 1000000000
  full : A.states ≠ []

theorem Rel.setPlan {D : Dk} {A : Ab} (h : Rel D A) {v : Value} {p : List UInt8} (o : Bool) (hp : BIn D.arrs v p) (hl : p.length ≤ 1000000000) : Rel { D with pln := v, off := o } { A with plan := p, off := o } :=
  ⟨h.room, rfl, h.names, h.states, h.fs, h.writes, hp, h.ids, h.known, h.knownW, h.nodup, h.smallF, h.smallW, h.smallN, h.smallR, hl, h.full⟩
theorem Rel.setPlan' {D : Dk} {A : Ab} (h : Rel D A) {v : Value} {p : List UInt8} (hp : BIn D.arrs v p) (hl : p.length ≤ 1000000000) : Rel { D with pln := v } { A with plan := p } :=
  ⟨h.room, h.off, h.names, h.states, h.fs, h.writes, hp, h.ids, h.known, h.knownW, h.nodup, h.smallF, h.smallW, h.smallN, h.smallR, hl, h.full⟩

theorem meet_any (bd : Nat) (D : Dk) (A : Ab) (hR : Rel D A) (may : Bool) :
    Ctr Tryz.prog 91 [ptr bd, .bool may] [disk bd D] (fun v H => ∃ D', Rel D' (A.meet may).2 ∧ H = [disk bd D'] ∧ v = .int .i64 (A.meet may).1) := by
  obtain ⟨room, bm, sts, wrs, pln, off, maps, arrs, files, stb, wl⟩ := D
  obtain ⟨a, cap, hpl, hcap⟩ := hR.plan.shape
  simp only at hpl
  subst hpl
  have hoff := hR.off
  simp only at hoff
  refine Ctr.enter Tryz.func91 (by kernel_rfl) rfl Tryz.ntmps91 rfl rfl ?_
  intro G F R hE
  refine K_ent (disk_o _ _ _ _ _ _ _ _ _ _ _ _ _) ?_
  cases may with
  | false =>
    (refine go ?_)
    refine K_return hE Tryz.func91 rfl _ rfl ⟨_, hR, rfl, rfl⟩ ((Ent.pick [0, 1, 2, 3, 4, 5] rfl).trans (disk_c _ _ _ _ _ _ _ _ _ _ _ _ _))
  | true =>
    cases off with
    | true =>
      have hm : A.meet true = (7, A) := by simp [Ab.meet, ← hoff]
      rw [hm] at hE
      (refine go ?_)
      refine K_return hE Tryz.func91 rfl _ rfl ⟨_, hR, rfl, rfl⟩ ((Ent.pick [0, 1, 2, 3, 4, 5] rfl).trans (disk_c _ _ _ _ _ _ _ _ _ _ _ _ _))
    | false =>
      (refine go ?_)
      refine K_condA rfl rfl ?_ ?_
      · intro h0
        have h0' : A.plan = [] := List.eq_nil_of_length_eq_zero (by have := of_decide_eq_true h0; omega)
        have hm : A.meet true = (0, A) := by simp [Ab.meet, ← hoff, h0']
        rw [hm] at hE
        (refine go ?_)
        refine K_return hE Tryz.func91 rfl _ rfl ⟨_, hR, rfl, rfl⟩ ((Ent.pick [0, 1, 2, 3, 4, 5] rfl).trans (disk_c _ _ _ _ _ _ _ _ _ _ _ _ _))
      · intro h0
        obtain ⟨x, p, hxp⟩ : ∃ x p, A.plan = x :: p := by
          cases h : A.plan with
          | nil => rw [h] at h0; simp at h0
          | cons x p => exact ⟨x, p, rfl⟩
        have hm : A.meet true = if x = 1 then (6, { A with plan := p }) else if x = 2 then (7, { A with plan := p, off := true }) else (0, { A with plan := p }) := by simp [Ab.meet, ← hoff, hxp]
        have hbin : BIn arrs (.slice a A.plan.length cap) (x :: p) := by have := hR.plan; rw [hxp] at this; rw [hxp]; exact this
        have hlen : A.plan.length = p.length + 1 := by rw [hxp]; rfl
        have hsm := hR.smallP
        obtain ⟨b, o, cap', hsl⟩ := (hbin.view 5).some (by simp [bV])
        simp only [Value.slice.injEq] at hsl
        obtain ⟨rfl, _, rfl⟩ := hsl
        (refine go ?_)
        refine J_at1 (U := tab) 0 rfl rfl rfl rfl rfl rfl rfl rfl (by omega) ?_
        refine J_loadV (U := tab) 2 rfl rfl rfl (Vw.cell (cap := cap) (n := (x :: p).length) (cs := bV (x :: p)) (by rw [← hxp]; exact hR.plan.view _) (c := u8 x) (by simp [bV])) rfl rfl ?_
        (refine go ?_)
        refine J_slice (U := tab) rfl rfl rfl rfl rfl rfl rfl (by omega) (by omega) (.inl rfl) ?_
        intro o' ho1 _
        have hn : (A.plan.length : Int).toNat - (1 : Int).toNat = p.length := by omega
        rw [hn]
        have hp : BIn arrs (.slice (some ⟨b, o', none⟩) p.length (cap - (1 : Int).toNat)) p := hbin.tail o' _ (fun hne => ho1 (by
          have : 0 < p.length := List.length_pos_iff.2 hne
          omega)) (by omega)
        have hoA : A.off = false := hoff.symm
        have hR1 := hR.setPlan' hp (by omega)
        have hR2 := hR.setPlan true hp (by omega)
        clear hbin hp ho1
        (refine go ?_)
        refine K_condP rfl rfl ?_ ?_
        · intro hx
          have hx1 : x = 1 := u8_inj hx
          rw [hm, if_pos hx1] at hE
          (refine go ?_)
          refine K_return hE Tryz.func91 rfl _ rfl ⟨_, hR1, rfl, rfl⟩ ((Ent.pick [0, 1, 2, 3, 4, 5] rfl).trans (disk_c _ _ _ _ _ _ _ _ _ _ _ _ _))
        · intro hx
          have hx1 : x ≠ 1 := fun h => hx (by rw [h]; rfl)
          (refine go ?_)
          refine K_condP rfl rfl ?_ ?_
          · intro hy
            have hx2 : x = 2 := u8_inj hy
            rw [hm, if_neg hx1, if_pos hx2] at hE
            (refine go ?_)
            refine K_return hE Tryz.func91 rfl _ rfl ⟨_, hR2, rfl, rfl⟩ ((Ent.pick [0, 1, 2, 3, 4, 5] rfl).trans (disk_c _ _ _ _ _ _ _ _ _ _ _ _ _))
          · intro hy
            have hx2 : x ≠ 2 := fun h => hy (by rw [h]; rfl)
            rw [hm, if_neg hx1, if_neg hx2] at hE
            (refine go ?_)
            refine K_return hE Tryz.func91 rfl _ rfl ⟨_, hR1, rfl, rfl⟩ ((Ent.pick [0, 1, 2, 3, 4, 5] rfl).trans (disk_c _ _ _ _ _ _ _ _ _ _ _ _ _))

theorem alook_ptrs (l : List (ByteArray × Nat)) (name : ByteArray) : alook (ptrs l) name = (Ab.lookIn l name).map ptr := by
  unfold alook Ab.lookIn ptrs
  induction l with
  | nil => rfl
  | cons x l ih =>
    simp only [List.map_cons, List.find?_cons]
    by_cases h : x.1 = name
    · simp [h]
    · simp only [h, decide_false]; exact ih
theorem map_of_stock {G : Glob} {w : World} {H : List HP} {maps : List (Nat × List (ByteArray × Value))} {b : Nat} {es : List (ByteArray × Value)} {i : Nat} (hs : Sat G w H) (hi : getL H i = some (stock mapG maps)) (hm : (b, es) ∈ maps) :
    ∃ o, mapW Value.string o es ∧ w.heap[b]? = some o := by
  obtain ⟨h, hh, hA⟩ := hs.getA hi
  obtain ⟨h', s, hb⟩ := stock_mem hm hA
  unfold mapG mapR at hb
  obtain ⟨o, ho, hp⟩ := hb
  unfold pts at hp
  exact ⟨o, ho, hh b o (s b o (by rw [hp b]; simp))⟩
theorem kStr : KeyOk Tryz.prog 9 Value.string := keyStr Tryz.underlying9
def optPtr : Option Nat → Value
  | none => .pointer none
  | some f => ptr f

theorem find_any (bd : Nat) (D : Dk) (A : Ab) (hR : Rel D A) (name : ByteArray) (may : Bool) :
    Ctr Tryz.prog 81 [ptr bd, .string name, .bool may] [disk bd D] (fun v H => ∃ D', Rel D' (A.find name may).2.2 ∧ H = [disk bd D'] ∧ v = .tuple #[optPtr (A.find name may).2.1, .int .i64 (A.find name may).1]) := by
  refine Ctr.enter Tryz.func81 (by kernel_rfl) rfl Tryz.ntmps81 rfl rfl ?_
  intro G F R hE
  (refine go ?_)
  refine J_call [0] rfl rfl rfl rfl (meet_any bd D A hR may) rfl (fun _ _ _ _ _ => trivial) ?_
  rintro _ _ ⟨D', hR', rfl, rfl⟩
  (refine go ?_)
  refine K_condA rfl rfl ?_ ?_
  · intro h0
    have h0' : ¬ (A.meet may).1 = 0 := by have := of_decide_eq_true h0; omega
    have hf : A.find name may = ((A.meet may).1, none, (A.meet may).2) := by simp [Ab.find, h0']
    rw [hf] at hE
    (refine go ?_)
    refine K_return hE Tryz.func81 rfl _ rfl ⟨D', hR', rfl, rfl⟩ (Ent.pick [0] rfl)
  · intro h0
    have h0' : (A.meet may).1 = 0 := by have := of_decide_eq_false h0; omega
    obtain ⟨room, bm, sts, wrs, pln, off, maps, arrs, files, stb, wl⟩ := D'
    refine K_ent (disk_o _ _ _ _ _ _ _ _ _ _ _ _ _) ?_
    (refine go ?_)
    refine J_lookupOkC (U := tab) rfl kStr rfl rfl rfl rfl rfl rfl rfl (fun w hw => map_of_stock (i := 1) hw rfl hR'.names) ?_
    rw [alook_ptrs]
    cases hl : Ab.lookIn (A.meet may).2.names name with
    | none =>
      have hf : A.find name may = (4, none, (A.meet may).2) := by simp [Ab.find, h0', Ab.look, hl]
      rw [hf] at hE
      (refine go ?_)
      refine K_return hE Tryz.func81 rfl _ rfl ⟨_, hR', rfl, rfl⟩ ((Ent.pick [0, 1, 2, 3, 4, 5] rfl).trans (disk_c _ _ _ _ _ _ _ _ _ _ _ _ _))
    | some fl =>
      have hf : A.find name may = (0, some fl, (A.meet may).2) := by simp [Ab.find, h0', Ab.look, hl]
      rw [hf] at hE
      (refine go ?_)
      refine K_return hE Tryz.func81 rfl _ rfl ⟨_, hR', rfl, rfl⟩ ((Ent.pick [0, 1, 2, 3, 4, 5] rfl).trans (disk_c _ _ _ _ _ _ _ _ _ _ _ _ _))
theorem find_nodup {α : Type} {l : List (Nat × α)} (hn : (l.map (·.1)).Nodup) {i f : Nat} {x : α} (hi : l[i]? = some (f, x)) : (l.find? fun x => decide (x.1 = f)) = some (f, x) := by
  induction l generalizing i with
  | nil => simp at hi
  | cons y l ih =>
    simp only [List.map_cons, List.nodup_cons] at hn
    cases i with
    | zero => simp at hi; subst hi; simp
    | succ i =>
      simp at hi
      have hne : y.1 ≠ f := fun e => hn.1 (List.mem_map.2 ⟨_, List.mem_of_getElem? hi, e.symm⟩)
      simp only [List.find?_cons, hne, decide_false]
      exact ih hn.2 hi
theorem Rel.file {D : Dk} {A : Ab} (h : Rel D A) {f : Nat} (hf : f ∈ A.fs.map (·.1)) : ∃ (i : Nat) (v1 v2 : Value), D.files[i]? = some (f, v1, v2) ∧ A.fs[i]? = some (f, A.now f, A.sure f) ∧ BIn D.arrs v1 (A.now f) ∧ BIn D.arrs v2 (A.sure f) := by
  obtain ⟨⟨f', n, s⟩, hm, rfl⟩ := List.mem_map.1 hf
  obtain ⟨i, hi⟩ := List.getElem?_of_mem hm
  obtain ⟨⟨f2, v1, v2⟩, hx, h1, h2, h3⟩ := h.fs.right hi
  simp only at h1 h2 h3
  subst h1
  have hfile : A.file f2 = (n, s) := by unfold Ab.file; rw [find_nodup h.ids hi]; rfl
  refine ⟨i, v1, v2, hx, ?_, ?_, ?_⟩
  · rw [hi]; simp [Ab.now, Ab.sure, hfile]
  · simpa [Ab.now, hfile] using h2
  · simpa [Ab.sure, hfile] using h3
theorem Rel.small {D : Dk} {A : Ab} (h : Rel D A) (f : Nat) : (A.now f).length ≤ 1048576 ∧ (A.sure f).length ≤ 1048576 := by
  unfold Ab.now Ab.sure Ab.file
  cases hf : A.fs.find? fun x => decide (x.1 = f) with
  | none => simp
  | some x => simpa using h.smallF x (List.mem_of_find?_eq_some hf)
theorem file_cells {G : Glob} {w : World} {H : List HP} {files : List (Nat × Value × Value)} {f : Nat} {v1 v2 : Value} {i j : Nat} (hs : Sat G w H) (hi : getL H i = some (stock fileG files)) (hm : files[j]? = some (f, v1, v2)) :
    w.heap[f]? = some (cl [v1, v2] 81) := by
  obtain ⟨h, hh, hA⟩ := hs.getA hi
  obtain ⟨h', s, hb⟩ := stock_mem (List.mem_of_getElem? hm) hA
  unfold fileG pts at hb
  exact hh f _ (s f _ (by rw [hb f]; simp))
theorem file_now {G : Glob} {w : World} {H : List HP} {files : List (Nat × Value × Value)} {f : Nat} {v1 v2 : Value} {i j : Nat} (hs : Sat G w H) (hi : getL H i = some (stock fileG files)) (hm : files[j]? = some (f, v1, v2)) :
    w.cell? ⟨f, 0, none⟩ = some v1 := by rw [cell_of_block (file_cells hs hi hm)]; rfl
theorem file_sure {G : Glob} {w : World} {H : List HP} {files : List (Nat × Value × Value)} {f : Nat} {v1 v2 : Value} {i j : Nat} (hs : Sat G w H) (hi : getL H i = some (stock fileG files)) (hm : files[j]? = some (f, v1, v2)) :
    w.cell? ⟨f, 1, none⟩ = some v2 := by rw [cell_of_block (file_cells hs hi hm)]; rfl
theorem lookIn_mem {l : List (ByteArray × Nat)} {k : ByteArray} {f : Nat} (hn : (l.map (·.1)).Nodup) (h : (k, f) ∈ l) : Ab.lookIn l k = some f := by
  obtain ⟨i, hi⟩ := List.getElem?_of_mem h
  have : alook (l.map fun x => (x.1, Value.int .i64 x.2)) k = some (.int .i64 f) := alook_get (i := i) (by simp [hi]) (fun j hj he => by
    rw [List.map_map] at he
    have h1 : (l.map (·.1))[j]? = (l.map (·.1))[i]? := by
      have e : (List.map ((fun x => x.1) ∘ fun x => (x.1, Value.int IntKind.i64 (x.2 : Nat))) l) = l.map (·.1) := rfl
      rw [e] at he
      rw [he]; simp [hi]
    have := (List.getElem?_inj (by
      rcases Nat.lt_or_ge j (l.map (·.1)).length with h | h
      · exact h
      · rw [List.getElem?_eq_none h] at h1; simp [hi] at h1) hn).1 h1
    omega)
  unfold alook at this
  unfold Ab.lookIn
  rw [List.find?_map] at this
  simp only [Option.map_map] at this
  cases hx : l.find? fun x => decide (x.1 = k) with
  | none => have e : (l.find? ((fun x => decide (x.1 = k)) ∘ fun x => (x.1, Value.int IntKind.i64 (x.2 : Nat)))) = none := hx
            rw [e] at this; cases this
  | some y => 
    have e : (l.find? ((fun x => decide (x.1 = k)) ∘ fun x => (x.1, Value.int IntKind.i64 (x.2 : Nat)))) = some y := hx
    rw [e] at this
    have h2 : ((y.2 : Nat) : Int) = f := by simpa using this
    rw [Option.map_some, show y.2 = f by omega]
theorem lookIn_some {l : List (ByteArray × Nat)} {k : ByteArray} {f : Nat} (h : Ab.lookIn l k = some f) : (k, f) ∈ l := by
  unfold Ab.lookIn at h
  cases hx : l.find? fun x => decide (x.1 = k) with
  | none => rw [hx] at h; cases h
  | some y =>
    rw [hx] at h
    have h1 := List.find?_some hx
    simp only [decide_eq_true_eq] at h1
    simp only [Option.map_some, Option.some.injEq] at h
    have := List.mem_of_find?_eq_some hx
    rwa [← h1, ← h]
end Go.Proofs.YtpdmbmnhgcnelaaGreat

/- files, part c: Used. -/
set_option linter.unusedVariables false
set_option linter.unusedSimpArgs false
namespace Go.Proofs.YtpdmbmnhgcnelaaGreat
open Go Go.SL
attribute [local irreducible] J K Ctr Ends pts slc mapR mapI sbRow stock arrS

def lenOf (A : Ab) (k : ByteArray) : Nat := (A.look k).elim 0 fun f => (A.now f).length
def sumOf (A : Ab) (l : List ByteArray) : Nat := (l.map (lenOf A)).sum
theorem sumOf_le {A : Ab} (h : ∀ f, (A.now f).length ≤ 1048576) (l : List ByteArray) : sumOf A l ≤ l.length * 1048576 := by
  induction l with
  | nil => simp [sumOf]
  | cons k l ih =>
    have h1 : lenOf A k ≤ 1048576 := by unfold lenOf; cases A.look k with | none => simp | some f => exact h f
    simp only [sumOf, List.map_cons, List.sum_cons, List.length_cons] at ih ⊢
    omega
theorem nodup_perm {α : Type} [DecidableEq α] {l r : List α} (h1 : l.Nodup) (h2 : r.Nodup) (h : ∀ x, x ∈ l ↔ x ∈ r) : l.Perm r := (List.perm_ext_iff_of_nodup h1 h2).2 h
theorem nodup_len {α : Type} [DecidableEq α] {l r : List α} (h1 : l.Nodup) (h : ∀ x ∈ l, x ∈ r) : l.length ≤ r.length := by
  induction l generalizing r with
  | nil => simp
  | cons x l ih =>
    simp only [List.nodup_cons] at h1
    have := ih (r := r.erase x) h1.2 (fun y hy => (List.mem_erase_of_ne (by rintro rfl; exact h1.1 hy)).2 (h y (by simp [hy])))
    rw [List.length_erase_of_mem (h x (by simp))] at this
    have h3 : 0 < r.length := List.length_pos_of_mem (h x (by simp))
    simp only [List.length_cons]
    omega
theorem sumOf_used {A : Ab} (hn : (A.names.map (·.1)).Nodup) : sumOf A (A.names.map (·.1)) = A.used := by
  unfold sumOf Ab.used
  rw [List.map_map]
  congr 1
  apply List.map_congr_left
  rintro ⟨k, f⟩ hx
  have : A.look k = some f := lookIn_mem hn hx
  simp [lenOf, this]

theorem Used_any (bd : Nat) (D : Dk) (A : Ab) (hR : Rel D A) :
    Ctr Tryz.prog 83 [ptr bd] [disk bd D] (fun v H => H = [disk bd D] ∧ v = .int .i64 A.used) := by
  obtain ⟨room, bm, sts, wrs, pln, off, maps, arrs, files, stb, wl⟩ := D
  refine Ctr.enter Tryz.func83 (by kernel_rfl) rfl Tryz.ntmps83 rfl rfl ?_
  intro G F R hE
  refine K_ent (disk_o _ _ _ _ _ _ _ _ _ _ _ _ _) ?_
  (refine go ?_)
  obtain ⟨j, hj⟩ := List.getElem?_of_mem hR.names
  simp only at hj
  refine J_ent (Ent.pick [1] rfl) ?_
  refine J_ent (stock_out mapG hj _) ?_
  refine J_range (kv := Value.string) (es := ptrs A.names) (U := tab) 0 rfl rfl rfl rfl rfl (fun _ => rfl) (fun _ _ _ => trivial) ?_
  intro it
  (refine go ?_)
  have hnd := hR.nodup _ (List.mem_cons_self ..)
  have hkeys : (ptrs A.names).map (·.1) = A.names.map (·.1) := by simp [ptrs, Function.comp_def]
  refine K_loop (fun dn : List ByteArray => dn.Nodup ∧ ∀ x ∈ dn, x ∈ A.names.map (·.1)) (fun dn => A.names.length - dn.length)
    (fun dn => [(3, .int .i64 (sumOf A dn)), (10, .pointer (some ⟨it, 0, none⟩))])
    (fun dn => mapI Value.string bm it (ptrs A.names) dn :: stock mapG (maps.eraseIdx j) :: pts bd (cl [.int .i64 room, .map (some bm), sts, wrs, pln, .bool off] 56) :: arrS 5 arrs :: stock fileG files :: slc 52 1 sts stb.length (stb.map fun b => .map (some b)) :: slc 77 3 wrs wl.length (wcells wl) :: F)
    [] ⟨List.nodup_nil, by simp⟩ rfl (by repeat (first | exact keep_nil | refine keep_cons rfl ?_)) (Ent.refl _) ?_
  rintro dn ⟨hdn, hsub⟩ ih
  have hlen := nodup_len hdn hsub
  have hb := sumOf_le (fun f => (hR.small f).1) dn
  have hN := hR.smallN _ (List.mem_cons_self ..)
  rw [List.length_map] at hlen
  (refine go ?_)
  refine J_next (kv := Value.string) (es := ptrs A.names) 0 rfl kStr.inj rfl rfl (fun _ => rfl) (fun _ _ => trivial) (fun _ _ _ => trivial) ?_ ?_
  · intro hall
    (refine go ?_)
    have hp : sumOf A dn = A.used := by
      rw [← sumOf_used hnd]
      refine List.Perm.sum_nat ((nodup_perm hdn hnd fun x => ⟨hsub x, fun hx => ?_⟩).map _)
      rw [← hkeys] at hx
      obtain ⟨y, hy, rfl⟩ := List.mem_map.1 hx
      exact hall y hy
    refine K_ent ((Ent.head (B := [mapG (bm, ptrs A.names)]) (fun h hs => by obtain ⟨h', s, hm⟩ := mapI_mapR h hs; exact ⟨h', s, Sep_one' hm⟩)).trans (stock_in mapG hj _)) ?_
    rw [hp]
    refine K_return hE Tryz.func83 rfl _ rfl ⟨rfl, rfl⟩ ((Ent.pick [1, 0] rfl).trans ((Ent.pick [0, 1, 2, 3, 4, 5] rfl).trans (disk_c _ _ _ _ _ _ _ _ _ _ _ _ _)))
  · intro key v hmem hnot
    obtain ⟨⟨k', f⟩, hx, hxe⟩ := List.mem_map.1 hmem
    simp only [Prod.mk.injEq] at hxe
    obtain ⟨rfl, rfl⟩ := hxe
    (refine go ?_)
    refine J_entry (kv := Value.string) (es := ptrs A.names) 0 rfl kStr.inj rfl rfl hmem ?_
    (refine go ?_)
    obtain ⟨i, v1, v2, hi, hfs, hv1, hv2⟩ := hR.file (hR.known _ (List.mem_cons_self ..) _ hx)
    obtain ⟨a, cap, rfl, hcap⟩ := hv1.shape
    refine J_loadC (U := tab) rfl rfl (fun w hw => file_now (i := 4) hw rfl hi) rfl rfl ?_
    have hlk : A.look k' = some f := lookIn_mem hnd hx
    have hl : lenOf A k' = (A.now f).length := by simp [lenOf, hlk]
    have hsm := (hR.small f).1
    have hmk : k' ∈ A.names.map (·.1) := List.mem_map.2 ⟨_, hx, rfl⟩
    have hd2 : (k' :: dn).Nodup := List.nodup_cons.2 ⟨hnot, hdn⟩
    have hs2 : ∀ x ∈ k' :: dn, x ∈ A.names.map (·.1) := fun x hx => by
      rcases List.mem_cons.1 hx with rfl | h
      · exact hmk
      · exact hsub x h
    have hlen2 := nodup_len hd2 hs2
    rw [List.length_map, List.length_cons] at hlen2
    (refine go ?_)
    refine K_slot 3 (.int .i64 (sumOf A (k' :: dn))) rfl (congrArg (Value.int .i64) (by simp only [sumOf, List.map_cons, List.sum_cons, hl]; omega)) ?_
    refine K_again ih (k' :: dn) rfl ⟨hd2, hs2⟩ (by show _ - (_ + 1) < _; omega) (by repeat (first | exact keep_nil | refine keep_cons rfl ?_)) (Ent.refl _)
end Go.Proofs.YtpdmbmnhgcnelaaGreat

/- files, part d: maps.Clone, change, the makers. -/
set_option linter.unusedVariables false
set_option linter.unusedSimpArgs false
namespace Go.Proofs.YtpdmbmnhgcnelaaGreat
open Go Go.SL
attribute [local irreducible] J K Ctr Ends pts slc mapR mapI sbRow stock arrS

theorem mapsClone_any (b : Nat) (es : List (ByteArray × Value)) :
    Ctr Tryz.prog 112 [.map (some b)] [mapR Value.string b es] (fun v H => ∃ b', v = .map (some b') ∧ H = [mapR Value.string b' es, mapR Value.string b es]) := by
  refine Ctr.enter Tryz.func112 (by kernel_rfl) rfl Tryz.ntmps112 rfl rfl ?_
  intro G F R hR
  (refine go ?_)
  refine J_mkIface (U := tab) rfl rfl rfl rfl ?_
  refine J_mapsClone (kv := Value.string) (es := es) 0 rfl Tryz.func121 (by kernel_rfl) (by kernel_rfl) (by kernel_rfl) (by kernel_rfl) rfl rfl (fun _ _ _ => trivial) ?_
  intro b'
  refine J_assert (U := tab) rfl rfl rfl rfl ?_
  (refine go ?_)
  refine K_return hR Tryz.func112 rfl _ rfl ⟨b', rfl, rfl⟩ (Ent.fin [0, 1] 0 rfl rfl)

/-- change: does what the function value does to the names. -/
theorem change_any {α : Type} (bd : Nat) (D : Dk) (nm : List (ByteArray × Nat)) (hm : (D.bm, ptrs nm) ∈ D.maps) (g : FuncId) (cap : Array Value) (E : HP) (nm' : α → List (ByteArray × Nat)) (E' : α → HP) (q : α → Prop)
    (hc : ∀ b', Ctr Tryz.prog g (.map (some b') :: cap.toList) [mapR Value.string b' (ptrs nm), E] (fun _ H => ∃ x, q x ∧ H = [mapR Value.string b' (ptrs (nm' x)), E' x])) (hlen : D.stb.length ≤ 1000000000) :
    Ctr Tryz.prog 92 [ptr bd, .func (.func g) #[] cap] [disk bd D, E]
      (fun _ H => ∃ x b' v, q x ∧ H = [disk bd { D with bm := b', maps := (b', ptrs (nm' x)) :: D.maps, sts := v, stb := D.stb ++ [b'] }, E' x]) := by
  obtain ⟨room, bm, sts, wrs, pln, off, maps, arrs, files, stb, wl⟩ := D
  simp only at hm hlen ⊢
  refine Ctr.enter Tryz.func92 (by kernel_rfl) rfl Tryz.ntmps92 rfl rfl ?_
  intro G F R hE
  refine K_ent (disk_o _ _ _ _ _ _ _ _ _ _ _ _ _) ?_
  (refine go ?_)
  obtain ⟨j, hj⟩ := List.getElem?_of_mem hm
  refine J_ent (Ent.pick [1] rfl) ?_
  refine J_ent (stock_out mapG hj _) ?_
  refine J_call [0] rfl rfl rfl rfl (mapsClone_any bm (ptrs nm)) rfl (fun _ _ _ _ _ => trivial) ?_
  rintro _ _ ⟨b', rfl, rfl⟩
  refine J_ent (Ent.pick [1, 2] rfl) ?_
  refine J_ent (stock_in mapG hj _) ?_
  (refine go ?_)
  refine J_call [1, 7] rfl rfl rfl rfl (hc b') rfl (fun _ _ _ _ _ => trivial) ?_
  rintro _ _ ⟨x, hq, rfl⟩
  refine J_ent (Ent.pick [0, 2] rfl) ?_
  refine J_ent (stock_add mapG (b', ptrs (nm' x)) maps _) ?_
  (refine go ?_)
  refine K_drawA (fun w => Sat G w ([pts bd (cl [.int .i64 room, .map (some b'), sts, wrs, pln, .bool off] 56)])) (.st 0 (.st 1 (.st 2 (.st 3 (.st 4 (.st 5 (.st 6 (.st 7 (.st 8 (.act 9 (.act 10 (.st 11 (.st 12 (.act 13 .nil)))))))))))))) rfl (by kernel_rfl) (by kernel_rfl) (by kernel_rfl) (fun w hw => hw.ent (Ent.pickOnly ([2]) rfl)) ?_
  (refine go ?_)
  refine J_buildSlice1 (U := tab) rfl rfl rfl rfl rfl rfl rfl rfl rfl (fun _ w hw => hw.ent (Ent.pickOnly ([3]) rfl)) ?_
  intro b0
  refine J_append (U := tab) (mm := 1) (news := [.map (some b')]) 6 0 rfl rfl rfl rfl rfl rfl rfl rfl rfl rfl rfl rfl (Vw.pts rfl) rfl (by simp [Value.oneCell']) (by omega) (by show _ * 8 ≤ _; omega) (fun _ => rfl) (fun _ w hw => hw.ent (Ent.pickOnly ([3]) rfl)) ?_
  intro v'
  have e1 : (stb.map fun b => Value.map (some b)) ++ [.map (some b')] = (stb ++ [b']).map fun b => Value.map (some b) := by simp
  have e2 : stb.length + 1 = (stb ++ [b']).length := by simp
  rw [e1, e2]
  refine J_shape 6 rfl ?_
  rintro av cv rfl
  (refine go ?_)
  refine K_ent (Ent.pick [3, 1, 4, 5, 6, 7, 2] rfl) ?_
  refine K_ent (disk_c bd room b' _ wrs pln off _ arrs files (stb ++ [b']) wl _) ?_
  refine K_fallEnd hE Tryz.func92 rfl _ rfl ⟨x, b', _, hq, rfl⟩ (Ent.fin [0, 1] 1 rfl rfl)

theorem Rel.new (room bm bm2 : Nat) (v : Value) (h : room ≤ 1073741824) : Rel ⟨room, bm, v, .slice none 0 0, .slice none 0 0, false, [(bm2, []), (bm, [])], [], [], [bm2], []⟩ (Ab.new room) where
  room := rfl
  off := rfl
  names := by simp [Ab.new, ptrs]
  states := All2.one (by simp [ptrs])
  fs := All2.nil
  writes := All2.nil
  plan := BIn.nil _ _ _
  ids := by simp [Ab.new]
  known := by simp [Ab.new]
  knownW := by simp [Ab.new]
  nodup := by simp [Ab.new]
  smallF := by simp [Ab.new]
  smallW := by simp [Ab.new]
  smallN := by simp [Ab.new]
  smallR := h
  smallP := by simp [Ab.new]
  full := by simp [Ab.new]
theorem New_good (room : Nat) (h1 : 1 ≤ room) (h2 : room ≤ 1073741824) :
    Ctr Tryz.prog 6 [.int .i64 room] [] (fun v H => ∃ bd D, Rel D (Ab.new room) ∧ v = .tuple #[ptr bd, .int .i64 0] ∧ H = [disk bd D]) := by
  refine Ctr.enter Tryz.func6 (by kernel_rfl) rfl Tryz.ntmps6 rfl rfl ?_
  intro G F R hE
  repeat' (first | (with_reducible intro _hh) | refine go1 ?_ | refine J_fork ?_ ?_ | refine J_gsP rfl rfl rfl rfl ?_ ?_ | refine K_condP rfl rfl ?_ ?_)
  · omega
  · omega
  refine J_makeMap rfl (fun _ _ _ => trivial) ?_
  intro bm
  refine J_ent (Ent.head (B := [mapG (bm, [])]) (fun h hs => ⟨h, sub.refl h, Sep_one' (mapR_new _ _ h hs)⟩)) ?_
  refine J_makeMap rfl (fun _ _ _ => trivial) ?_
  intro bm2
  refine J_ent (Ent.head (B := [mapG (bm2, [])]) (fun h hs => ⟨h, sub.refl h, Sep_one' (mapR_new _ _ h hs)⟩)) ?_
  refine J_buildSlice1 (U := tab) rfl rfl rfl rfl rfl rfl rfl rfl rfl (fun _ _ _ => trivial) ?_
  intro b0
  (refine go ?_)
  refine J_box rfl rfl (fun _ _ _ => trivial) ?_
  intro bd
  (refine go ?_)
  refine K_ent (stock_nil mapG _) ?_
  refine K_ent (Ent.pick [4, 0] rfl) ?_
  refine K_ent (stock_add mapG (bm, []) [] _) ?_
  refine K_ent (Ent.pick [3, 0] rfl) ?_
  refine K_ent (stock_add mapG (bm2, []) [(bm, [])] _) ?_
  refine K_ent (Ent.pick [2] rfl) ?_
  refine K_ent (slc_row 52 1 b0 1 1 [.map (some bm2)] [] _ rfl (Nat.le_refl _) (by simp)) ?_
  refine K_ent (slc_lift 77 3 none _) ?_
  refine K_ent (arrS_nil 5 _) ?_
  refine K_ent (stock_nil fileG _) ?_
  refine K_ent (Ent.pick [5, 4, 1, 0, 3, 2] rfl) ?_
  refine K_ent (disk_c bd room bm (.slice (some ⟨b0, 0, none⟩) 1 1) (.slice none 0 0) (.slice none 0 0) false [(bm2, []), (bm, [])] [] [] [bm2] [] _) ?_
  refine K_return hE Tryz.func6 rfl _ rfl ⟨bd, _, Rel.new room bm bm2 _ h2, rfl, rfl⟩ (Ent.fin [0] 0 rfl rfl)

/-! ## the closures that change names -/
theorem lookIn_key {l : List (ByteArray × Nat)} {k : ByteArray} : (Ab.lookIn l k).isSome = true ↔ k ∈ l.map (·.1) := by
  unfold Ab.lookIn
  rw [Option.isSome_map, List.find?_isSome]
  simp only [decide_eq_true_eq, List.mem_map]
theorem adel_ptrs (l : List (ByteArray × Nat)) (k : ByteArray) : adel (ptrs l) k = ptrs (Ab.delN l k) := by
  unfold adel ptrs Ab.delN
  rw [List.filter_map]
  rfl
theorem aset_ptrs (l : List (ByteArray × Nat)) (k : ByteArray) (f : Nat) : aset (ptrs l) k (ptr f) = ptrs (Ab.setN l k f) := by
  have hk : (ptrs l).map (·.1) = l.map (·.1) := by simp [ptrs, Function.comp_def]
  unfold aset Ab.setN
  rw [hk]
  by_cases h : (Ab.lookIn l k).isSome = true
  · rw [if_pos (lookIn_key.1 h), if_pos h]
    simp only [ptrs, List.map_map]
    apply List.map_congr_left
    intro x _
    simp only [Function.comp]
    split <;> rfl
  · rw [if_neg (fun h' => h (lookIn_key.2 h')), if_neg h]
    simp [ptrs]

theorem Remove1_any (b box : Nat) (l : List (ByteArray × Nat)) (k : ByteArray) :
    Ctr Tryz.prog 98 [.map (some b), ptr box] [mapR Value.string b (ptrs l), pts box (cl [.string k] 9)] (fun _ H => H = [mapR Value.string b (ptrs (Ab.delN l k)), pts box (cl [.string k] 9)]) := by
  refine Ctr.enter Tryz.func98 (by kernel_rfl) rfl Tryz.ntmps98 rfl rfl ?_
  intro G F R hE
  (refine go ?_)
  refine J_delete (U := tab) 0 kStr (fun _ _ => trivial) rfl rfl rfl rfl rfl rfl rfl ?_
  rw [adel_ptrs]
  (refine go ?_)
  refine K_fallEnd hE Tryz.func98 rfl _ rfl rfl (Ent.fin [0, 1] 0 rfl rfl)
theorem Rename1_any (b box1 box2 box3 f : Nat) (l : List (ByteArray × Nat)) (k k2 : ByteArray) :
    Ctr Tryz.prog 99 [.map (some b), ptr box1, ptr box2, ptr box3] [mapR Value.string b (ptrs l), Sep [pts box1 (cl [.string k] 9), pts box2 (cl [ptr f] 75), pts box3 (cl [.string k2] 9)]]
      (fun _ H => H = [mapR Value.string b (ptrs (Ab.setN (Ab.delN l k) k2 f)), emp]) := by
  refine Ctr.enter Tryz.func99 (by kernel_rfl) rfl Tryz.ntmps99 rfl rfl ?_
  intro G F R hE
  refine K_ent (Ent.pick [1] rfl) ?_
  refine K_ent (Ent.unsep _ _) ?_
  (refine go ?_)
  refine J_delete (U := tab) 3 kStr (fun _ _ => trivial) rfl rfl rfl rfl rfl rfl rfl ?_
  rw [adel_ptrs]
  (refine go ?_)
  refine J_mapUpdate (U := tab) 3 kStr (fun _ _ => trivial) rfl rfl rfl rfl rfl rfl rfl rfl ?_
  rw [aset_ptrs]
  (refine go ?_)
  refine K_ent (Ent.addEmp _) ?_
  refine K_fallEnd hE Tryz.func99 rfl _ rfl rfl (Ent.fin [4, 0] 3 rfl rfl)
theorem Create1_any (b box : Nat) (l : List (ByteArray × Nat)) (k : ByteArray) :
    Ctr Tryz.prog 93 [.map (some b), ptr box] [mapR Value.string b (ptrs l), pts box (cl [.string k] 9)]
      (fun _ H => ∃ f, True ∧ H = [mapR Value.string b (ptrs (Ab.setN l k f)), fileG (f, .slice none 0 0, .slice none 0 0)]) := by
  refine Ctr.enter Tryz.func93 (by kernel_rfl) rfl Tryz.ntmps93 rfl rfl ?_
  intro G F R hE
  (refine go ?_)
  refine J_box rfl rfl (fun _ _ _ => trivial) ?_
  intro f
  (refine go ?_)
  refine J_mapUpdate (U := tab) (v := ptr f) 1 kStr (fun _ _ => trivial) rfl rfl rfl rfl rfl rfl rfl rfl ?_
  rw [aset_ptrs]
  (refine go ?_)
  refine K_fallEnd hE Tryz.func93 rfl _ rfl ⟨f, trivial, rfl⟩ (Ent.fin [1, 0] 1 rfl rfl)
end Go.Proofs.YtpdmbmnhgcnelaaGreat

/- files, part e: Create, Remove, Rename. -/
set_option linter.unusedVariables false
set_option linter.unusedSimpArgs false
namespace Go.Proofs.YtpdmbmnhgcnelaaGreat
open Go Go.SL
attribute [local irreducible] J K Ctr Ends pts slc mapR mapI sbRow stock arrS

theorem fresh (l : List Nat) : ∃ n, n ∉ l := by
  suffices h : ∃ n, ∀ x ∈ l, x < n from let ⟨n, hn⟩ := h; ⟨n, fun hx => Nat.lt_irrefl _ (hn n hx)⟩
  induction l with
  | nil => exact ⟨0, by simp⟩
  | cons a l ih =>
    obtain ⟨n, hn⟩ := ih
    exact ⟨max n (a + 1), fun x hx => by
      rcases List.mem_cons.1 hx with rfl | h
      · omega
      · have := hn x h; omega⟩
theorem file_fresh {G : Glob} {w : World} {H : List HP} {files : List (Nat × Value × Value)} {x : Nat × Value × Value} (hs : Sat G w (fileG x :: stock fileG files :: H)) : x.1 ∉ files.map (·.1) := by
  intro hx
  obtain ⟨y, hy, he⟩ := List.mem_map.1 hx
  obtain ⟨i, hi⟩ := List.getElem?_of_mem hy
  have h1 := hs.ent ((Ent.perm (List.Perm.swap _ _ _)).trans ((stock_out fileG hi _).trans (Ent.pick [2, 0] rfl)))
  unfold fileG at h1
  exact h1.ne he.symm
theorem meet_fs (A : Ab) (may : Bool) : (A.meet may).2.fs = A.fs ∧ (A.meet may).2.names = A.names ∧ (A.meet may).2.states = A.states ∧ (A.meet may).2.writes = A.writes ∧ (A.meet may).2.room = A.room := by
  unfold Ab.meet
  split
  · simp
  split
  · simp
  split
  · simp
  split
  · simp
  split <;> simp
theorem Rel.chg {D : Dk} {A : Ab} (h : Rel D A) {b' : Nat} {v : Value} {nm : List (ByteArray × Nat)} (hk : ∀ x ∈ nm, x.2 ∈ A.fs.map (·.1)) (hn : (nm.map (·.1)).Nodup) (hl : nm.length ≤ 200) :
    Rel { D with bm := b', maps := (b', ptrs nm) :: D.maps, sts := v, stb := D.stb ++ [b'] } (A.chg nm) where
  room := h.room
  off := h.off
  names := by simp [Ab.chg]
  states := All2.snoc (h.states.mono fun b es hb => List.mem_cons_of_mem _ hb) (by simp)
  fs := h.fs
  writes := h.writes
  plan := h.plan
  ids := h.ids
  known := by
    intro st hst
    simp only [Ab.chg, List.mem_cons, List.mem_append, List.not_mem_nil, or_false] at hst
    rcases hst with rfl | hst | rfl
    · exact hk
    · exact h.known _ (List.mem_cons_of_mem _ hst)
    · exact hk
  knownW := h.knownW
  nodup := by
    intro st hst
    simp only [Ab.chg, List.mem_cons, List.mem_append, List.not_mem_nil, or_false] at hst
    rcases hst with rfl | hst | rfl
    · exact hn
    · exact h.nodup _ (List.mem_cons_of_mem _ hst)
    · exact hn
  smallF := h.smallF
  smallW := h.smallW
  smallN := by
    intro st hst
    simp only [Ab.chg, List.mem_cons, List.mem_append, List.not_mem_nil, or_false] at hst
    rcases hst with rfl | hst | rfl
    · exact hl
    · exact h.smallN _ (List.mem_cons_of_mem _ hst)
    · exact hl
  smallR := h.smallR
  smallP := h.smallP
  full := by simp [Ab.chg]
theorem Rel.addFile {D : Dk} {A : Ab} (h : Rel D A) {f : Nat} (hf : f ∉ A.fs.map (·.1)) : Rel { D with files := (f, .slice none 0 0, .slice none 0 0) :: D.files } { A with fs := (f, [], []) :: A.fs } where
  room := h.room
  off := h.off
  names := h.names
  states := h.states
  fs := h.fs.cons ⟨rfl, BIn.nil _ _ _, BIn.nil _ _ _⟩
  writes := h.writes
  plan := h.plan
  ids := by simp only [List.map_cons, List.nodup_cons]; exact ⟨hf, h.ids⟩
  known := fun st hst x hx => List.mem_cons_of_mem _ (h.known st hst x hx)
  knownW := fun x hx => List.mem_cons_of_mem _ (h.knownW x hx)
  nodup := h.nodup
  smallF := fun x hx => by
    rcases List.mem_cons.1 hx with rfl | hx
    · simp
    · exact h.smallF x hx
  smallW := h.smallW
  smallN := h.smallN
  smallR := h.smallR
  smallP := h.smallP
  full := h.full
theorem All2.ids {q : Nat × Value × Value → Nat × List UInt8 × List UInt8 → Prop} {l : List (Nat × Value × Value)} {r : List (Nat × List UInt8 × List UInt8)} (h : All2 q l r) (hq : ∀ x y, q x y → x.1 = y.1) : l.map (·.1) = r.map (·.1) := by
  apply List.ext_getElem?
  intro i
  simp only [List.getElem?_map]
  cases hx : l[i]? with
  | none =>
    have : r[i]? = none := by rw [List.getElem?_eq_none_iff] at hx ⊢; rw [← h.1]; exact hx
    rw [this]; rfl
  | some x =>
    obtain ⟨y, hy, hxy⟩ := h.left hx
    rw [hy]
    simp [hq x y hxy]
theorem Rel.fids {D : Dk} {A : Ab} (h : Rel D A) : D.files.map (·.1) = A.fs.map (·.1) := All2.ids h.fs fun x y hxy => hxy.1
theorem setN_new {l : List (ByteArray × Nat)} {k : ByteArray} {f : Nat} (h : Ab.lookIn l k = none) : Ab.setN l k f = l ++ [(k, f)] := by simp [Ab.setN, h]

theorem Create_any (bd : Nat) (D : Dk) (A : Ab) (hR : Rel D A) (name : ByteArray) (hst : A.states.length ≤ 1000000000) :
    Ctr Tryz.prog 48 [ptr bd, .string name] [disk bd D]
      (fun v H => ∃ f D', f ∉ A.fs.map (·.1) ∧ Rel D' (A.create (isName name) name f).2 ∧ H = [disk bd D'] ∧ v = .int .i64 (A.create (isName name) name f).1) := by
  refine Ctr.enter Tryz.func48 (by kernel_rfl) rfl Tryz.ntmps48 rfl rfl ?_
  intro G F R hE
  (refine go ?_)
  refine J_box rfl rfl (fun _ _ _ => trivial) ?_
  intro box
  (refine go ?_)
  refine J_buildSlice1 (U := tab) rfl rfl rfl rfl rfl rfl rfl rfl rfl (fun _ _ _ => trivial) ?_
  intro b0
  (refine go ?_)
  refine J_call [0] rfl rfl rfl rfl (right_any _ _ [name] (Vw.pts rfl) (by simp)) rfl (fun _ _ _ _ _ => trivial) ?_
  rintro _ _ ⟨rfl, rfl⟩
  have e1 : [name].all isName = isName name := by simp
  rw [e1]
  (refine go ?_)
  refine J_call [2] rfl rfl rfl rfl (meet_any bd D A hR (isName name)) rfl (fun _ _ _ _ _ => trivial) ?_
  rintro _ _ ⟨D', hR', rfl, rfl⟩
  obtain ⟨f0, hf0⟩ := fresh (A.fs.map (·.1))
  have hmf := meet_fs A (isName name)
  (refine go ?_)
  refine K_condA rfl rfl ?_ ?_
  · intro h0
    have h0' : ¬ (A.meet (isName name)).1 = 0 := by have := of_decide_eq_true h0; omega
    have hf : A.create (isName name) name f0 = ((A.meet (isName name)).1, (A.meet (isName name)).2) := by simp [Ab.create, h0']
    (refine go ?_)
    refine K_return hE Tryz.func48 rfl _ rfl ⟨f0, D', hf0, by rw [hf]; exact hR', rfl, by rw [hf]; rfl⟩ (Ent.fin [0] 2 rfl rfl)
  · intro h0
    have h0' : (A.meet (isName name)).1 = 0 := by have := of_decide_eq_false h0; omega
    obtain ⟨room, bm, sts, wrs, pln, off, maps, arrs, files, stb, wl⟩ := D'
    have hst' : stb.length ≤ 1000000000 := by have := hR'.states.1; simp only at this; rw [this, hmf.2.2.1]; exact hst
    refine K_ent (disk_o _ _ _ _ _ _ _ _ _ _ _ _ _) ?_
    refine K_drawA (fun w => Sat G w ([pts bd (cl [.int .i64 room, .map (some bm), sts, wrs, pln, .bool off] 56), stock mapG maps, pts box (cl [.string name] 9)])) (.st 0 (.st 1 (.st 2 (.st 3 (.st 4 (.st 5 (.st 6 (.st 7 (.st 8 (.st 9 (.st 10 .nil))))))))))) rfl (by kernel_rfl) (by kernel_rfl) (by kernel_rfl) (fun w hw => hw.ent (Ent.pickOnly ([0, 1, 7]) rfl)) ?_
    (refine go ?_)
    refine J_lookupOkS (U := tab) rfl kStr rfl rfl rfl rfl rfl rfl rfl (fun w hw => map_of_stock (i := 1) hw rfl hR'.names) ?_
    rw [alook_ptrs]
    cases hl : Ab.lookIn (A.meet (isName name)).2.names name with
    | some fl =>
      have hf : A.create (isName name) name f0 = (5, (A.meet (isName name)).2) := by simp [Ab.create, h0', Ab.look, hl]
      (refine go ?_)
      refine K_ent ((Ent.pick [0, 1, 2, 3, 4, 5] rfl).trans (disk_c _ _ _ _ _ _ _ _ _ _ _ _ _)) ?_
      refine K_return hE Tryz.func48 rfl _ rfl ⟨f0, _, hf0, by rw [hf]; exact hR', rfl, by rw [hf]; rfl⟩ (Ent.fin [0] 2 rfl rfl)
    | none =>
      (refine go ?_)
      refine J_lenMapC (kv := Value.string) (U := tab) rfl rfl rfl rfl (fun w hw => map_of_stock (i := 1) hw rfl hR'.names) ?_
      have hpl : (ptrs (A.meet (isName name)).2.names).length = (A.meet (isName name)).2.names.length := by simp [ptrs]
      rw [hpl]
      (refine go ?_)
      refine K_condP rfl rfl ?_ ?_
      · intro hfull
        have hf : A.create (isName name) name f0 = (3, (A.meet (isName name)).2) := by simp [Ab.create, h0', Ab.look, hl]; omega
        (refine go ?_)
        refine K_ent ((Ent.pick [0, 1, 2, 3, 4, 5] rfl).trans (disk_c _ _ _ _ _ _ _ _ _ _ _ _ _)) ?_
        refine K_return hE Tryz.func48 rfl _ rfl ⟨f0, _, hf0, by rw [hf]; exact hR', rfl, by rw [hf]; rfl⟩ (Ent.fin [0] 2 rfl rfl)
      · intro hfull
        (refine go ?_)
        refine J_ent ((Ent.pick [0, 1, 2, 3, 4, 5] rfl).trans (disk_c _ _ _ _ _ _ _ _ _ _ _ _ _)) ?_
        refine J_call [0, 2] rfl rfl rfl rfl (change_any (α := Nat) bd _ _ hR'.names 93 #[ptr box] (pts box (cl [.string name] 9)) (fun f => Ab.setN (A.meet (isName name)).2.names name f) (fun f => fileG (f, .slice none 0 0, .slice none 0 0)) (fun _ => True) (fun b' => Create1_any b' box _ name) hst') rfl (fun _ _ _ _ _ => trivial) ?_
        rintro _ _ ⟨f, b', v, _, rfl⟩
        (refine go ?_)
        refine K_ent (disk_o _ _ _ _ _ _ _ _ _ _ _ _ _) ?_
        refine K_ent (Ent.pick [6, 3] rfl) ?_
        refine K_sat fun ⟨w, hw⟩ => ?_
        have hff : f ∉ A.fs.map (·.1) := by have := file_fresh hw; have h2 := hR'.fids; simp only at h2; rw [h2, hmf.1] at this; exact this
        clear hw
        refine K_ent (stock_add fileG (f, .slice none 0 0, .slice none 0 0) files _) ?_
        have hlk : (A.meet (isName name)).2.look name = none := hl
        have hf : A.create (isName name) name f = (0, { (A.meet (isName name)).2.chg ((A.meet (isName name)).2.names ++ [(name, f)]) with fs := (f, [], []) :: (A.meet (isName name)).2.fs }) := by
          simp only [Ab.create, h0', if_true, hlk, Option.isSome_none, Bool.false_eq_true, if_false]
          rw [if_neg (by omega)]
        have hset : Ab.setN (A.meet (isName name)).2.names name f = (A.meet (isName name)).2.names ++ [(name, f)] := setN_new hl
        have hnin : name ∉ (A.meet (isName name)).2.names.map (·.1) := fun h => by have := lookIn_key.2 h; rw [hl] at this; cases this
        have hR2 := (hR'.addFile (f := f) (by rw [hmf.1]; exact hff)).chg (b' := b') (v := v) (nm := (A.meet (isName name)).2.names ++ [(name, f)])
          (fun x hx => by
            rcases List.mem_append.1 hx with hx | hx
            · exact List.mem_cons_of_mem _ (hR'.known _ (List.mem_cons_self ..) x hx)
            · simp only [List.mem_singleton] at hx; subst hx; exact List.mem_cons_self ..)
          (by
            rw [List.map_append, List.nodup_append]
            exact ⟨hR'.nodup _ (List.mem_cons_self ..), by simp, fun a ha b hb => by simp at hb; subst hb; rintro rfl; exact hnin ha⟩)
          (by rw [List.length_append]; simp only [List.length_singleton]; omega)
        rw [hset]
        refine K_ent (Ent.pick [1, 2, 3, 0, 4, 5] rfl) ?_
        refine K_ent (disk_c bd room b' _ wrs pln off _ arrs _ (stb ++ [b']) wl _) ?_
        refine K_return hE Tryz.func48 rfl _ rfl ⟨f, _, hff, by rw [hf]; exact hR2, rfl, by rw [hf]; rfl⟩ (Ent.fin [0] 1 rfl rfl)
end Go.Proofs.YtpdmbmnhgcnelaaGreat

/- files, part f: Size, Read. -/
set_option linter.unusedVariables false
set_option linter.unusedSimpArgs false
namespace Go.Proofs.YtpdmbmnhgcnelaaGreat
open Go Go.SL
attribute [local irreducible] J K Ctr Ends pts slc mapR mapI sbRow stock arrS

theorem Size_any (bd : Nat) (D : Dk) (A : Ab) (hR : Rel D A) (name : ByteArray) :
    Ctr Tryz.prog 20 [ptr bd, .string name] [disk bd D] (fun v H => H = [disk bd D] ∧ v = .tuple #[.int .i64 (A.size name).1, .int .i64 (A.size name).2]) := by
  obtain ⟨room, bm, sts, wrs, pln, off, maps, arrs, files, stb, wl⟩ := D
  refine Ctr.enter Tryz.func20 (by kernel_rfl) rfl Tryz.ntmps20 rfl rfl ?_
  intro G F R hE
  refine K_ent (disk_o _ _ _ _ _ _ _ _ _ _ _ _ _) ?_
  (refine go ?_)
  refine J_lookupOkC (U := tab) rfl kStr rfl rfl rfl rfl rfl rfl rfl (fun w hw => map_of_stock (i := 1) hw rfl hR.names) ?_
  rw [alook_ptrs]
  cases hl : Ab.lookIn A.names name with
  | none =>
    have hs : A.size name = (0, 4) := by simp [Ab.size, Ab.look, hl]
    rw [hs] at hE
    (refine go ?_)
    refine K_ent ((Ent.pick [0, 1, 2, 3, 4, 5] rfl).trans (disk_c _ _ _ _ _ _ _ _ _ _ _ _ _)) ?_
    refine K_return hE Tryz.func20 rfl _ rfl ⟨rfl, rfl⟩ (Ent.fin [0] 0 rfl rfl)
  | some fl =>
    have hs : A.size name = ((A.now fl).length, 0) := by simp [Ab.size, Ab.look, hl]
    rw [hs] at hE
    obtain ⟨i, v1, v2, hi, hfs, hv1, hv2⟩ := hR.file (f := fl) (hR.known _ (List.mem_cons_self ..) _ (lookIn_some hl))
    obtain ⟨a, cap, rfl, hcap⟩ := hv1.shape
    (refine go ?_)
    refine J_loadC (U := tab) rfl rfl (fun w hw => file_now (i := 3) hw rfl hi) rfl rfl ?_
    (refine go ?_)
    refine K_ent ((Ent.pick [0, 1, 2, 3, 4, 5] rfl).trans (disk_c _ _ _ _ _ _ _ _ _ _ _ _ _)) ?_
    refine K_return hE Tryz.func20 rfl _ rfl ⟨rfl, rfl⟩ (Ent.fin [0] 0 rfl rfl)

theorem Read_any (bd : Nat) (D : Dk) (A : Ab) (hR : Rel D A) (name : ByteArray) (at_ n : Int) :
    Ctr Tryz.prog 21 [ptr bd, .string name, .int .i64 at_, .int .i64 n] [disk bd D]
      (fun v H => ∃ r, H = [slc 5 1 r (A.read name at_ n).1.length (bV (A.read name at_ n).1), disk bd D] ∧ v = .tuple #[r, .int .i64 (A.read name at_ n).2]) := by
  obtain ⟨room, bm, sts, wrs, pln, off, maps, arrs, files, stb, wl⟩ := D
  have hoff := hR.off
  simp only at hoff
  refine Ctr.enter Tryz.func21 (by kernel_rfl) rfl Tryz.ntmps21 rfl rfl ?_
  intro G F R hE
  refine K_ent (disk_o _ _ _ _ _ _ _ _ _ _ _ _ _) ?_
  cases off with
  | true =>
    have hs : A.read name at_ n = ([], 7) := by simp [Ab.read, ← hoff]
    rw [hs] at hE
    (refine go ?_)
    refine K_ent ((Ent.pick [0, 1, 2, 3, 4, 5] rfl).trans (disk_c _ _ _ _ _ _ _ _ _ _ _ _ _)) ?_
    refine K_ent (slc_lift 5 1 none _) ?_
    refine K_return hE Tryz.func21 rfl _ rfl ⟨_, rfl, rfl⟩ (Ent.fin [0, 1] 0 rfl rfl)
  | false =>
    (refine go ?_)
    refine J_lookupOkC (U := tab) rfl kStr rfl rfl rfl rfl rfl rfl rfl (fun w hw => map_of_stock (i := 1) hw rfl hR.names) ?_
    rw [alook_ptrs]
    cases hl : Ab.lookIn A.names name with
    | none =>
      have hs : A.read name at_ n = ([], 4) := by simp [Ab.read, Ab.look, hl, ← hoff]
      rw [hs] at hE
      (refine go ?_)
      refine K_ent ((Ent.pick [0, 1, 2, 3, 4, 5] rfl).trans (disk_c _ _ _ _ _ _ _ _ _ _ _ _ _)) ?_
      refine K_ent (slc_lift 5 1 none _) ?_
      refine K_return hE Tryz.func21 rfl _ rfl ⟨_, rfl, rfl⟩ (Ent.fin [0, 1] 0 rfl rfl)
    | some fl =>
      have hs : A.read name at_ n = if at_ < 0 ∨ n < 0 ∨ ((A.now fl).length : Int) < at_ ∨ ((A.now fl).length : Int) - at_ < n then ([], 1) else (((A.now fl).drop at_.toNat).take n.toNat, 0) := by simp [Ab.read, Ab.look, hl, ← hoff]
      obtain ⟨i, v1, v2, hi, hfs, hv1, hv2⟩ := hR.file (f := fl) (hR.known _ (List.mem_cons_self ..) _ (lookIn_some hl))
      obtain ⟨a, cap, rfl, hcap⟩ := hv1.shape
      have hsm := (hR.small fl).1
      have hbad : ∀ (h : at_ < 0 ∨ n < 0 ∨ ((A.now fl).length : Int) < at_ ∨ ((A.now fl).length : Int) - at_ < n), A.read name at_ n = ([], 1) := fun h => by rw [hs, if_pos h]
      repeat' (first | (with_reducible intro _hh) | refine go1 ?_ | refine J_fork ?_ ?_ | refine J_gsP rfl rfl rfl rfl ?_ ?_ | refine K_condP rfl rfl ?_ ?_ | refine J_loadC (U := tab) rfl rfl (fun w hw => file_now (i := 3) hw rfl hi) rfl rfl ?_)
      any_goals (
        have hs2 := hbad (by omega)
        rw [hs2] at hE
        refine K_ent ((Ent.pick [0, 1, 2, 3, 4, 5] rfl).trans (disk_c _ _ _ _ _ _ _ _ _ _ _ _ _)) ?_
        refine K_ent (slc_lift 5 1 none _) ?_
        refine K_return hE Tryz.func21 rfl _ rfl ⟨_, rfl, rfl⟩ (Ent.fin [0, 1] 0 rfl rfl))
      refine J_sliceAny (U := tab) rfl rfl rfl rfl rfl rfl rfl (by omega) (by omega) (.inr (by omega)) ?_
      have hr : A.read name at_ n = (((A.now fl).drop at_.toNat).take n.toNat, 0) := by rw [hs, if_neg (by omega)]
      have hcut := hv1.cut at_.toNat n.toNat (by omega)
      have hlen : (((A.now fl).drop at_.toNat).take n.toNat).length = n.toNat := by rw [List.length_take, List.length_drop]; omega
      refine J_slot 61 (.slice (sliceAt a cap at_.toNat 1) (((A.now fl).drop at_.toNat).take n.toNat).length (cap - at_.toNat)) rfl (by rw [hlen]; congr 1; omega) ?_
      have hcut2 : BIn arrs (.slice (sliceAt a cap at_.toNat 1) (((A.now fl).drop at_.toNat).take n.toNat).length (cap - at_.toNat)) (((A.now fl).drop at_.toNat).take n.toNat) := by rw [hlen]; exact hcut
      rw [hr] at hE
      clear hcut hr hs hbad
      generalize hbs : ((A.now fl).drop at_.toNat).take n.toNat = bs at hE hcut2 hlen ⊢
      (refine go ?_)
      refine J_call [2] rfl rfl rfl rfl (Clone_bytes _ _ bs (hcut2.view _) (by omega)) rfl (fun _ _ _ _ _ => trivial) ?_
      rintro r _ rfl
      (refine go ?_)
      refine K_ent (Ent.pick [2, 3, 1, 4, 5, 6] rfl) ?_
      refine K_ent (disk_c bd room bm sts wrs pln false maps arrs files stb wl _) ?_
      refine K_return hE Tryz.func21 rfl _ rfl ⟨r, rfl, rfl⟩ (Ent.fin [1, 0] 0 rfl rfl)
end Go.Proofs.YtpdmbmnhgcnelaaGreat

