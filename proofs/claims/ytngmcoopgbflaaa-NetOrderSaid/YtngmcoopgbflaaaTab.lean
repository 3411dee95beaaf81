/- The table of types of this seat's translation, as a tree (written by program: mktab.py), and that the program's own table says the same. -/
import Derived.Test.YtngmcoopgbflaaaEngC
import Derived.Test.YtngmcoopgbflaaaProg
namespace Go.Proofs.Ytngmcoopgbflaaa
open Go.SL
theorem tab1 : Try.prog.underlying 1 = some Try.t1.desc ∧ Try.prog.info? 1 = some Try.t1 := ⟨by kernel_rfl, by kernel_rfl⟩
theorem tab2 : Try.prog.underlying 2 = some Try.t2.desc ∧ Try.prog.info? 2 = some Try.t2 := ⟨by kernel_rfl, by kernel_rfl⟩
theorem tab3 : Try.prog.underlying 3 = some Try.t3.desc ∧ Try.prog.info? 3 = some Try.t3 := ⟨by kernel_rfl, by kernel_rfl⟩
theorem tab4 : Try.prog.underlying 4 = some Try.t4.desc ∧ Try.prog.info? 4 = some Try.t4 := ⟨by kernel_rfl, by kernel_rfl⟩
theorem tab5 : Try.prog.underlying 5 = some Try.t5.desc ∧ Try.prog.info? 5 = some Try.t5 := ⟨by kernel_rfl, by kernel_rfl⟩
theorem tab6 : Try.prog.underlying 6 = some Try.t5.desc ∧ Try.prog.info? 6 = some Try.t6 := ⟨by kernel_rfl, by kernel_rfl⟩
theorem tab7 : Try.prog.underlying 7 = some Try.t7.desc ∧ Try.prog.info? 7 = some Try.t7 := ⟨by kernel_rfl, by kernel_rfl⟩
theorem tab8 : Try.prog.underlying 8 = some Try.t7.desc ∧ Try.prog.info? 8 = some Try.t8 := ⟨by kernel_rfl, by kernel_rfl⟩
theorem tab9 : Try.prog.underlying 9 = some Try.t9.desc ∧ Try.prog.info? 9 = some Try.t9 := ⟨by kernel_rfl, by kernel_rfl⟩
theorem tab10 : Try.prog.underlying 10 = some Try.t9.desc ∧ Try.prog.info? 10 = some Try.t10 := ⟨by kernel_rfl, by kernel_rfl⟩
theorem tab11 : Try.prog.underlying 11 = some Try.t9.desc ∧ Try.prog.info? 11 = some Try.t11 := ⟨by kernel_rfl, by kernel_rfl⟩
theorem tab12 : Try.prog.underlying 12 = some Try.t12.desc ∧ Try.prog.info? 12 = some Try.t12 := ⟨by kernel_rfl, by kernel_rfl⟩
theorem tab13 : Try.prog.underlying 13 = some Try.t13.desc ∧ Try.prog.info? 13 = some Try.t13 := ⟨by kernel_rfl, by kernel_rfl⟩
theorem tab14 : Try.prog.underlying 14 = some Try.t13.desc ∧ Try.prog.info? 14 = some Try.t14 := ⟨by kernel_rfl, by kernel_rfl⟩
theorem tab15 : Try.prog.underlying 15 = some Try.t15.desc ∧ Try.prog.info? 15 = some Try.t15 := ⟨by kernel_rfl, by kernel_rfl⟩
theorem tab16 : Try.prog.underlying 16 = some Try.t16.desc ∧ Try.prog.info? 16 = some Try.t16 := ⟨by kernel_rfl, by kernel_rfl⟩
theorem tab17 : Try.prog.underlying 17 = some Try.t17.desc ∧ Try.prog.info? 17 = some Try.t17 := ⟨by kernel_rfl, by kernel_rfl⟩
theorem tab18 : Try.prog.underlying 18 = some Try.t18.desc ∧ Try.prog.info? 18 = some Try.t18 := ⟨by kernel_rfl, by kernel_rfl⟩
theorem tab19 : Try.prog.underlying 19 = some Try.t18.desc ∧ Try.prog.info? 19 = some Try.t19 := ⟨by kernel_rfl, by kernel_rfl⟩
theorem tab20 : Try.prog.underlying 20 = some Try.t20.desc ∧ Try.prog.info? 20 = some Try.t20 := ⟨by kernel_rfl, by kernel_rfl⟩
theorem tab21 : Try.prog.underlying 21 = some Try.t21.desc ∧ Try.prog.info? 21 = some Try.t21 := ⟨by kernel_rfl, by kernel_rfl⟩
theorem tab22 : Try.prog.underlying 22 = some Try.t22.desc ∧ Try.prog.info? 22 = some Try.t22 := ⟨by kernel_rfl, by kernel_rfl⟩
theorem tab23 : Try.prog.underlying 23 = some Try.t23.desc ∧ Try.prog.info? 23 = some Try.t23 := ⟨by kernel_rfl, by kernel_rfl⟩
theorem tab24 : Try.prog.underlying 24 = some Try.t24.desc ∧ Try.prog.info? 24 = some Try.t24 := ⟨by kernel_rfl, by kernel_rfl⟩
theorem tab25 : Try.prog.underlying 25 = some Try.t3.desc ∧ Try.prog.info? 25 = some Try.t25 := ⟨by kernel_rfl, by kernel_rfl⟩
theorem tab27 : Try.prog.underlying 27 = some Try.t27.desc ∧ Try.prog.info? 27 = some Try.t27 := ⟨by kernel_rfl, by kernel_rfl⟩
theorem tab28 : Try.prog.underlying 28 = some Try.t28.desc ∧ Try.prog.info? 28 = some Try.t28 := ⟨by kernel_rfl, by kernel_rfl⟩
theorem tab29 : Try.prog.underlying 29 = some Try.t29.desc ∧ Try.prog.info? 29 = some Try.t29 := ⟨by kernel_rfl, by kernel_rfl⟩
theorem tab30 : Try.prog.underlying 30 = some Try.t30.desc ∧ Try.prog.info? 30 = some Try.t30 := ⟨by kernel_rfl, by kernel_rfl⟩
theorem tab31 : Try.prog.underlying 31 = some Try.t31.desc ∧ Try.prog.info? 31 = some Try.t31 := ⟨by kernel_rfl, by kernel_rfl⟩
theorem tab32 : Try.prog.underlying 32 = some Try.t32.desc ∧ Try.prog.info? 32 = some Try.t32 := ⟨by kernel_rfl, by kernel_rfl⟩
theorem tab33 : Try.prog.underlying 33 = some Try.t33.desc ∧ Try.prog.info? 33 = some Try.t33 := ⟨by kernel_rfl, by kernel_rfl⟩
theorem tab34 : Try.prog.underlying 34 = some Try.t33.desc ∧ Try.prog.info? 34 = some Try.t34 := ⟨by kernel_rfl, by kernel_rfl⟩
theorem tab36 : Try.prog.underlying 36 = some Try.t36.desc ∧ Try.prog.info? 36 = some Try.t36 := ⟨by kernel_rfl, by kernel_rfl⟩
theorem tab37 : Try.prog.underlying 37 = some Try.t37.desc ∧ Try.prog.info? 37 = some Try.t37 := ⟨by kernel_rfl, by kernel_rfl⟩
theorem tab38 : Try.prog.underlying 38 = some Try.t38.desc ∧ Try.prog.info? 38 = some Try.t38 := ⟨by kernel_rfl, by kernel_rfl⟩
theorem tab39 : Try.prog.underlying 39 = some Try.t39.desc ∧ Try.prog.info? 39 = some Try.t39 := ⟨by kernel_rfl, by kernel_rfl⟩
theorem tab40 : Try.prog.underlying 40 = some Try.t40.desc ∧ Try.prog.info? 40 = some Try.t40 := ⟨by kernel_rfl, by kernel_rfl⟩
theorem tab41 : Try.prog.underlying 41 = some Try.t41.desc ∧ Try.prog.info? 41 = some Try.t41 := ⟨by kernel_rfl, by kernel_rfl⟩
theorem tab42 : Try.prog.underlying 42 = some Try.t42.desc ∧ Try.prog.info? 42 = some Try.t42 := ⟨by kernel_rfl, by kernel_rfl⟩
theorem tab43 : Try.prog.underlying 43 = some Try.t43.desc ∧ Try.prog.info? 43 = some Try.t43 := ⟨by kernel_rfl, by kernel_rfl⟩
theorem tab45 : Try.prog.underlying 45 = some Try.t45.desc ∧ Try.prog.info? 45 = some Try.t45 := ⟨by kernel_rfl, by kernel_rfl⟩
theorem tab46 : Try.prog.underlying 46 = some Try.t46.desc ∧ Try.prog.info? 46 = some Try.t46 := ⟨by kernel_rfl, by kernel_rfl⟩
theorem tab47 : Try.prog.underlying 47 = some Try.t47.desc ∧ Try.prog.info? 47 = some Try.t47 := ⟨by kernel_rfl, by kernel_rfl⟩
theorem tab48 : Try.prog.underlying 48 = some Try.t47.desc ∧ Try.prog.info? 48 = some Try.t48 := ⟨by kernel_rfl, by kernel_rfl⟩
theorem tab49 : Try.prog.underlying 49 = some Try.t49.desc ∧ Try.prog.info? 49 = some Try.t49 := ⟨by kernel_rfl, by kernel_rfl⟩
theorem tab50 : Try.prog.underlying 50 = some Try.t50.desc ∧ Try.prog.info? 50 = some Try.t50 := ⟨by kernel_rfl, by kernel_rfl⟩
theorem tab51 : Try.prog.underlying 51 = some Try.t50.desc ∧ Try.prog.info? 51 = some Try.t51 := ⟨by kernel_rfl, by kernel_rfl⟩
theorem tab52 : Try.prog.underlying 52 = some Try.t52.desc ∧ Try.prog.info? 52 = some Try.t52 := ⟨by kernel_rfl, by kernel_rfl⟩
theorem tab53 : Try.prog.underlying 53 = some Try.t53.desc ∧ Try.prog.info? 53 = some Try.t53 := ⟨by kernel_rfl, by kernel_rfl⟩
theorem tab54 : Try.prog.underlying 54 = some Try.t54.desc ∧ Try.prog.info? 54 = some Try.t54 := ⟨by kernel_rfl, by kernel_rfl⟩
theorem tab55 : Try.prog.underlying 55 = some Try.t55.desc ∧ Try.prog.info? 55 = some Try.t55 := ⟨by kernel_rfl, by kernel_rfl⟩
theorem tab56 : Try.prog.underlying 56 = some Try.t56.desc ∧ Try.prog.info? 56 = some Try.t56 := ⟨by kernel_rfl, by kernel_rfl⟩
theorem tab57 : Try.prog.underlying 57 = some Try.t56.desc ∧ Try.prog.info? 57 = some Try.t57 := ⟨by kernel_rfl, by kernel_rfl⟩
theorem tab58 : Try.prog.underlying 58 = some Try.t58.desc ∧ Try.prog.info? 58 = some Try.t58 := ⟨by kernel_rfl, by kernel_rfl⟩
theorem tab59 : Try.prog.underlying 59 = some Try.t59.desc ∧ Try.prog.info? 59 = some Try.t59 := ⟨by kernel_rfl, by kernel_rfl⟩
theorem tab60 : Try.prog.underlying 60 = some Try.t60.desc ∧ Try.prog.info? 60 = some Try.t60 := ⟨by kernel_rfl, by kernel_rfl⟩
theorem tab61 : Try.prog.underlying 61 = some Try.t61.desc ∧ Try.prog.info? 61 = some Try.t61 := ⟨by kernel_rfl, by kernel_rfl⟩
theorem tab62 : Try.prog.underlying 62 = some Try.t62.desc ∧ Try.prog.info? 62 = some Try.t62 := ⟨by kernel_rfl, by kernel_rfl⟩
theorem tab63 : Try.prog.underlying 63 = some Try.t63.desc ∧ Try.prog.info? 63 = some Try.t63 := ⟨by kernel_rfl, by kernel_rfl⟩
theorem tab64 : Try.prog.underlying 64 = some Try.t64.desc ∧ Try.prog.info? 64 = some Try.t64 := ⟨by kernel_rfl, by kernel_rfl⟩
theorem tab66 : Try.prog.underlying 66 = some Try.t66.desc ∧ Try.prog.info? 66 = some Try.t66 := ⟨by kernel_rfl, by kernel_rfl⟩
theorem tab67 : Try.prog.underlying 67 = some Try.t67.desc ∧ Try.prog.info? 67 = some Try.t67 := ⟨by kernel_rfl, by kernel_rfl⟩
theorem tab68 : Try.prog.underlying 68 = some Try.t68.desc ∧ Try.prog.info? 68 = some Try.t68 := ⟨by kernel_rfl, by kernel_rfl⟩
theorem tab69 : Try.prog.underlying 69 = some Try.t69.desc ∧ Try.prog.info? 69 = some Try.t69 := ⟨by kernel_rfl, by kernel_rfl⟩
theorem tab70 : Try.prog.underlying 70 = some Try.t70.desc ∧ Try.prog.info? 70 = some Try.t70 := ⟨by kernel_rfl, by kernel_rfl⟩
theorem tab72 : Try.prog.underlying 72 = some Try.t72.desc ∧ Try.prog.info? 72 = some Try.t72 := ⟨by kernel_rfl, by kernel_rfl⟩
theorem tab73 : Try.prog.underlying 73 = some Try.t73.desc ∧ Try.prog.info? 73 = some Try.t73 := ⟨by kernel_rfl, by kernel_rfl⟩
theorem tab74 : Try.prog.underlying 74 = some Try.t74.desc ∧ Try.prog.info? 74 = some Try.t74 := ⟨by kernel_rfl, by kernel_rfl⟩
theorem tab75 : Try.prog.underlying 75 = some Try.t75.desc ∧ Try.prog.info? 75 = some Try.t75 := ⟨by kernel_rfl, by kernel_rfl⟩
theorem tab76 : Try.prog.underlying 76 = some Try.t76.desc ∧ Try.prog.info? 76 = some Try.t76 := ⟨by kernel_rfl, by kernel_rfl⟩
theorem tab77 : Try.prog.underlying 77 = some Try.t77.desc ∧ Try.prog.info? 77 = some Try.t77 := ⟨by kernel_rfl, by kernel_rfl⟩
theorem tab78 : Try.prog.underlying 78 = some Try.t77.desc ∧ Try.prog.info? 78 = some Try.t78 := ⟨by kernel_rfl, by kernel_rfl⟩
theorem tab79 : Try.prog.underlying 79 = some Try.t79.desc ∧ Try.prog.info? 79 = some Try.t79 := ⟨by kernel_rfl, by kernel_rfl⟩
theorem tab80 : Try.prog.underlying 80 = some Try.t80.desc ∧ Try.prog.info? 80 = some Try.t80 := ⟨by kernel_rfl, by kernel_rfl⟩
theorem tab81 : Try.prog.underlying 81 = some Try.t80.desc ∧ Try.prog.info? 81 = some Try.t81 := ⟨by kernel_rfl, by kernel_rfl⟩
theorem tab82 : Try.prog.underlying 82 = some Try.t82.desc ∧ Try.prog.info? 82 = some Try.t82 := ⟨by kernel_rfl, by kernel_rfl⟩
theorem tab83 : Try.prog.underlying 83 = some Try.t5.desc ∧ Try.prog.info? 83 = some Try.t83 := ⟨by kernel_rfl, by kernel_rfl⟩
theorem tab84 : Try.prog.underlying 84 = some Try.t5.desc ∧ Try.prog.info? 84 = some Try.t84 := ⟨by kernel_rfl, by kernel_rfl⟩
theorem tab85 : Try.prog.underlying 85 = some Try.t85.desc ∧ Try.prog.info? 85 = some Try.t85 := ⟨by kernel_rfl, by kernel_rfl⟩
theorem tab86 : Try.prog.underlying 86 = some Try.t86.desc ∧ Try.prog.info? 86 = some Try.t86 := ⟨by kernel_rfl, by kernel_rfl⟩
theorem tab87 : Try.prog.underlying 87 = some Try.t21.desc ∧ Try.prog.info? 87 = some Try.t87 := ⟨by kernel_rfl, by kernel_rfl⟩
theorem tab88 : Try.prog.underlying 88 = some Try.t21.desc ∧ Try.prog.info? 88 = some Try.t88 := ⟨by kernel_rfl, by kernel_rfl⟩
theorem tab89 : Try.prog.underlying 89 = some Try.t89.desc ∧ Try.prog.info? 89 = some Try.t89 := ⟨by kernel_rfl, by kernel_rfl⟩
theorem tab90 : Try.prog.underlying 90 = some Try.t89.desc ∧ Try.prog.info? 90 = some Try.t90 := ⟨by kernel_rfl, by kernel_rfl⟩
theorem tab91 : Try.prog.underlying 91 = some Try.t91.desc ∧ Try.prog.info? 91 = some Try.t91 := ⟨by kernel_rfl, by kernel_rfl⟩
noncomputable def tab : Tr := (.node 47 ⟨Try.t47.desc, Try.t47⟩ (.node 22 ⟨Try.t22.desc, Try.t22⟩ (.node 11 ⟨Try.t9.desc, Try.t11⟩ (.node 6 ⟨Try.t5.desc, Try.t6⟩ (.node 3 ⟨Try.t3.desc, Try.t3⟩ (.node 2 ⟨Try.t2.desc, Try.t2⟩ (.node 1 ⟨Try.t1.desc, Try.t1⟩ .leaf .leaf) .leaf) (.node 5 ⟨Try.t5.desc, Try.t5⟩ (.node 4 ⟨Try.t4.desc, Try.t4⟩ .leaf .leaf) .leaf)) (.node 9 ⟨Try.t9.desc, Try.t9⟩ (.node 8 ⟨Try.t7.desc, Try.t8⟩ (.node 7 ⟨Try.t7.desc, Try.t7⟩ .leaf .leaf) .leaf) (.node 10 ⟨Try.t9.desc, Try.t10⟩ .leaf .leaf))) (.node 17 ⟨Try.t17.desc, Try.t17⟩ (.node 14 ⟨Try.t13.desc, Try.t14⟩ (.node 13 ⟨Try.t13.desc, Try.t13⟩ (.node 12 ⟨Try.t12.desc, Try.t12⟩ .leaf .leaf) .leaf) (.node 16 ⟨Try.t16.desc, Try.t16⟩ (.node 15 ⟨Try.t15.desc, Try.t15⟩ .leaf .leaf) .leaf)) (.node 20 ⟨Try.t20.desc, Try.t20⟩ (.node 19 ⟨Try.t18.desc, Try.t19⟩ (.node 18 ⟨Try.t18.desc, Try.t18⟩ .leaf .leaf) .leaf) (.node 21 ⟨Try.t21.desc, Try.t21⟩ .leaf .leaf)))) (.node 34 ⟨Try.t33.desc, Try.t34⟩ (.node 29 ⟨Try.t29.desc, Try.t29⟩ (.node 25 ⟨Try.t3.desc, Try.t25⟩ (.node 24 ⟨Try.t24.desc, Try.t24⟩ (.node 23 ⟨Try.t23.desc, Try.t23⟩ .leaf .leaf) .leaf) (.node 28 ⟨Try.t28.desc, Try.t28⟩ (.node 27 ⟨Try.t27.desc, Try.t27⟩ .leaf .leaf) .leaf)) (.node 32 ⟨Try.t32.desc, Try.t32⟩ (.node 31 ⟨Try.t31.desc, Try.t31⟩ (.node 30 ⟨Try.t30.desc, Try.t30⟩ .leaf .leaf) .leaf) (.node 33 ⟨Try.t33.desc, Try.t33⟩ .leaf .leaf))) (.node 41 ⟨Try.t41.desc, Try.t41⟩ (.node 38 ⟨Try.t38.desc, Try.t38⟩ (.node 37 ⟨Try.t37.desc, Try.t37⟩ (.node 36 ⟨Try.t36.desc, Try.t36⟩ .leaf .leaf) .leaf) (.node 40 ⟨Try.t40.desc, Try.t40⟩ (.node 39 ⟨Try.t39.desc, Try.t39⟩ .leaf .leaf) .leaf)) (.node 45 ⟨Try.t45.desc, Try.t45⟩ (.node 43 ⟨Try.t43.desc, Try.t43⟩ (.node 42 ⟨Try.t42.desc, Try.t42⟩ .leaf .leaf) .leaf) (.node 46 ⟨Try.t46.desc, Try.t46⟩ .leaf .leaf))))) (.node 70 ⟨Try.t70.desc, Try.t70⟩ (.node 58 ⟨Try.t58.desc, Try.t58⟩ (.node 53 ⟨Try.t53.desc, Try.t53⟩ (.node 50 ⟨Try.t50.desc, Try.t50⟩ (.node 49 ⟨Try.t49.desc, Try.t49⟩ (.node 48 ⟨Try.t47.desc, Try.t48⟩ .leaf .leaf) .leaf) (.node 52 ⟨Try.t52.desc, Try.t52⟩ (.node 51 ⟨Try.t50.desc, Try.t51⟩ .leaf .leaf) .leaf)) (.node 56 ⟨Try.t56.desc, Try.t56⟩ (.node 55 ⟨Try.t55.desc, Try.t55⟩ (.node 54 ⟨Try.t54.desc, Try.t54⟩ .leaf .leaf) .leaf) (.node 57 ⟨Try.t56.desc, Try.t57⟩ .leaf .leaf))) (.node 64 ⟨Try.t64.desc, Try.t64⟩ (.node 61 ⟨Try.t61.desc, Try.t61⟩ (.node 60 ⟨Try.t60.desc, Try.t60⟩ (.node 59 ⟨Try.t59.desc, Try.t59⟩ .leaf .leaf) .leaf) (.node 63 ⟨Try.t63.desc, Try.t63⟩ (.node 62 ⟨Try.t62.desc, Try.t62⟩ .leaf .leaf) .leaf)) (.node 68 ⟨Try.t68.desc, Try.t68⟩ (.node 67 ⟨Try.t67.desc, Try.t67⟩ (.node 66 ⟨Try.t66.desc, Try.t66⟩ .leaf .leaf) .leaf) (.node 69 ⟨Try.t69.desc, Try.t69⟩ .leaf .leaf)))) (.node 82 ⟨Try.t82.desc, Try.t82⟩ (.node 77 ⟨Try.t77.desc, Try.t77⟩ (.node 74 ⟨Try.t74.desc, Try.t74⟩ (.node 73 ⟨Try.t73.desc, Try.t73⟩ (.node 72 ⟨Try.t72.desc, Try.t72⟩ .leaf .leaf) .leaf) (.node 76 ⟨Try.t76.desc, Try.t76⟩ (.node 75 ⟨Try.t75.desc, Try.t75⟩ .leaf .leaf) .leaf)) (.node 80 ⟨Try.t80.desc, Try.t80⟩ (.node 79 ⟨Try.t79.desc, Try.t79⟩ (.node 78 ⟨Try.t77.desc, Try.t78⟩ .leaf .leaf) .leaf) (.node 81 ⟨Try.t80.desc, Try.t81⟩ .leaf .leaf))) (.node 87 ⟨Try.t21.desc, Try.t87⟩ (.node 85 ⟨Try.t85.desc, Try.t85⟩ (.node 84 ⟨Try.t5.desc, Try.t84⟩ (.node 83 ⟨Try.t5.desc, Try.t83⟩ .leaf .leaf) .leaf) (.node 86 ⟨Try.t86.desc, Try.t86⟩ .leaf .leaf)) (.node 90 ⟨Try.t89.desc, Try.t90⟩ (.node 89 ⟨Try.t89.desc, Try.t89⟩ (.node 88 ⟨Try.t21.desc, Try.t88⟩ .leaf .leaf) .leaf) (.node 91 ⟨Try.t91.desc, Try.t91⟩ .leaf .leaf))))))
instance tabOk : TabOk Try.prog tab := ⟨⟨tab47, ⟨tab22, ⟨tab11, ⟨tab6, ⟨tab3, ⟨tab2, ⟨tab1, trivial, trivial⟩, trivial⟩, ⟨tab5, ⟨tab4, trivial, trivial⟩, trivial⟩⟩, ⟨tab9, ⟨tab8, ⟨tab7, trivial, trivial⟩, trivial⟩, ⟨tab10, trivial, trivial⟩⟩⟩, ⟨tab17, ⟨tab14, ⟨tab13, ⟨tab12, trivial, trivial⟩, trivial⟩, ⟨tab16, ⟨tab15, trivial, trivial⟩, trivial⟩⟩, ⟨tab20, ⟨tab19, ⟨tab18, trivial, trivial⟩, trivial⟩, ⟨tab21, trivial, trivial⟩⟩⟩⟩, ⟨tab34, ⟨tab29, ⟨tab25, ⟨tab24, ⟨tab23, trivial, trivial⟩, trivial⟩, ⟨tab28, ⟨tab27, trivial, trivial⟩, trivial⟩⟩, ⟨tab32, ⟨tab31, ⟨tab30, trivial, trivial⟩, trivial⟩, ⟨tab33, trivial, trivial⟩⟩⟩, ⟨tab41, ⟨tab38, ⟨tab37, ⟨tab36, trivial, trivial⟩, trivial⟩, ⟨tab40, ⟨tab39, trivial, trivial⟩, trivial⟩⟩, ⟨tab45, ⟨tab43, ⟨tab42, trivial, trivial⟩, trivial⟩, ⟨tab46, trivial, trivial⟩⟩⟩⟩⟩, ⟨tab70, ⟨tab58, ⟨tab53, ⟨tab50, ⟨tab49, ⟨tab48, trivial, trivial⟩, trivial⟩, ⟨tab52, ⟨tab51, trivial, trivial⟩, trivial⟩⟩, ⟨tab56, ⟨tab55, ⟨tab54, trivial, trivial⟩, trivial⟩, ⟨tab57, trivial, trivial⟩⟩⟩, ⟨tab64, ⟨tab61, ⟨tab60, ⟨tab59, trivial, trivial⟩, trivial⟩, ⟨tab63, ⟨tab62, trivial, trivial⟩, trivial⟩⟩, ⟨tab68, ⟨tab67, ⟨tab66, trivial, trivial⟩, trivial⟩, ⟨tab69, trivial, trivial⟩⟩⟩⟩, ⟨tab82, ⟨tab77, ⟨tab74, ⟨tab73, ⟨tab72, trivial, trivial⟩, trivial⟩, ⟨tab76, ⟨tab75, trivial, trivial⟩, trivial⟩⟩, ⟨tab80, ⟨tab79, ⟨tab78, trivial, trivial⟩, trivial⟩, ⟨tab81, trivial, trivial⟩⟩⟩, ⟨tab87, ⟨tab85, ⟨tab84, ⟨tab83, trivial, trivial⟩, trivial⟩, ⟨tab86, trivial, trivial⟩⟩, ⟨tab90, ⟨tab89, ⟨tab88, trivial, trivial⟩, trivial⟩, ⟨tab91, trivial, trivial⟩⟩⟩⟩⟩⟩⟩
theorem mixed : Try.prog.follows .mixedOrders = true := by kernel_rfl
end Go.Proofs.Ytngmcoopgbflaaa
