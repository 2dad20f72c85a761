/- Own text, written by a program of mine (GenEnv.lean): that the tables say what the program says. -/
import Derived.Test.YtoeipbkoeclbeaaEnv
import Derived.Test.YtoeipbkoeclbeaaEvSe2
import Derived.KernelRfl
namespace Go.Proofs.Ytoeipbkoeclbeaa
open Go.Ev Go.Ev.Tr Go.Proofs
set_option maxRecDepth 100000
theorem tf0 : TyFact Try.prog 0 ⟨Try.t0.desc, Try.t0.size, Try.t0.bytes, Try.t0.zero, false, false⟩ := ⟨Try.underlying0, ⟨Try.t0, rfl, rfl, rfl, rfl⟩, fun ⟨_, h⟩ => by cases h⟩
theorem tf1 : TyFact Try.prog 1 ⟨Try.t1.desc, Try.t1.size, Try.t1.bytes, Try.t1.zero, false, false⟩ := ⟨Try.underlying1, ⟨Try.t1, rfl, rfl, rfl, rfl⟩, fun ⟨_, h⟩ => by cases h⟩
theorem tf2 : TyFact Try.prog 2 ⟨Try.t2.desc, Try.t2.size, Try.t2.bytes, Try.t2.zero, false, false⟩ := ⟨Try.underlying2, ⟨Try.t2, rfl, rfl, rfl, rfl⟩, fun ⟨_, h⟩ => by cases h⟩
theorem tf3 : TyFact Try.prog 3 ⟨Try.t3.desc, Try.t3.size, Try.t3.bytes, Try.t3.zero, false, false⟩ := ⟨Try.underlying3, ⟨Try.t3, rfl, rfl, rfl, rfl⟩, fun ⟨_, h⟩ => by cases h⟩
theorem tf4 : TyFact Try.prog 4 ⟨Try.t4.desc, Try.t4.size, Try.t4.bytes, Try.t4.zero, false, false⟩ := ⟨Try.underlying4, ⟨Try.t4, rfl, rfl, rfl, rfl⟩, fun ⟨_, h⟩ => by cases h⟩
theorem tf5 : TyFact Try.prog 5 ⟨Try.t5.desc, Try.t5.size, Try.t5.bytes, Try.t5.zero, false, false⟩ := ⟨Try.underlying5, ⟨Try.t5, rfl, rfl, rfl, rfl⟩, fun ⟨_, h⟩ => by cases h⟩
theorem tf6 : TyFact Try.prog 6 ⟨Try.t5.desc, Try.t6.size, Try.t6.bytes, Try.t6.zero, false, false⟩ := ⟨Try.underlying6, ⟨Try.t6, rfl, rfl, rfl, rfl⟩, fun ⟨_, h⟩ => by cases h⟩
theorem eg7 : (Try.prog.eqGuardType Try.prog.depth 7 = false) ∧ (Try.prog.stoodInHeld 7 = false) := ⟨by kernel_rfl, by kernel_rfl⟩
theorem tf7 : TyFact Try.prog 7 ⟨Try.t7.desc, Try.t7.size, Try.t7.bytes, Try.t7.zero, false, false⟩ := ⟨Try.underlying7, ⟨Try.t7, rfl, rfl, rfl, rfl⟩, fun _ => ⟨fun h => eg7.1, fun h => eg7.2⟩⟩
theorem eg8 : (Try.prog.eqGuardType Try.prog.depth 8 = false) ∧ (Try.prog.stoodInHeld 8 = false) := ⟨by kernel_rfl, by kernel_rfl⟩
theorem tf8 : TyFact Try.prog 8 ⟨Try.t7.desc, Try.t8.size, Try.t8.bytes, Try.t8.zero, false, false⟩ := ⟨Try.underlying8, ⟨Try.t8, rfl, rfl, rfl, rfl⟩, fun _ => ⟨fun h => eg8.1, fun h => eg8.2⟩⟩
theorem tf9 : TyFact Try.prog 9 ⟨Try.t9.desc, Try.t9.size, Try.t9.bytes, Try.t9.zero, false, false⟩ := ⟨Try.underlying9, ⟨Try.t9, rfl, rfl, rfl, rfl⟩, fun ⟨_, h⟩ => by cases h⟩
theorem tf10 : TyFact Try.prog 10 ⟨Try.t9.desc, Try.t10.size, Try.t10.bytes, Try.t10.zero, false, false⟩ := ⟨Try.underlying10, ⟨Try.t10, rfl, rfl, rfl, rfl⟩, fun ⟨_, h⟩ => by cases h⟩
theorem tf11 : TyFact Try.prog 11 ⟨Try.t9.desc, Try.t11.size, Try.t11.bytes, Try.t11.zero, false, false⟩ := ⟨Try.underlying11, ⟨Try.t11, rfl, rfl, rfl, rfl⟩, fun ⟨_, h⟩ => by cases h⟩
theorem tf12 : TyFact Try.prog 12 ⟨Try.t12.desc, Try.t12.size, Try.t12.bytes, Try.t12.zero, false, false⟩ := ⟨Try.underlying12, ⟨Try.t12, rfl, rfl, rfl, rfl⟩, fun ⟨_, h⟩ => by cases h⟩
theorem eg13 : (Try.prog.eqGuardType Try.prog.depth 13 = false) ∧ (Try.prog.stoodInHeld 13 = true) := ⟨by kernel_rfl, by kernel_rfl⟩
theorem tf13 : TyFact Try.prog 13 ⟨Try.t13.desc, Try.t13.size, Try.t13.bytes, Try.t13.zero, false, true⟩ := ⟨Try.underlying13, ⟨Try.t13, rfl, rfl, rfl, rfl⟩, fun _ => ⟨fun h => eg13.1, fun h => nomatch h⟩⟩
theorem eg14 : (Try.prog.eqGuardType Try.prog.depth 14 = false) ∧ (Try.prog.stoodInHeld 14 = true) := ⟨by kernel_rfl, by kernel_rfl⟩
theorem tf14 : TyFact Try.prog 14 ⟨Try.t13.desc, Try.t14.size, Try.t14.bytes, Try.t14.zero, false, true⟩ := ⟨Try.underlying14, ⟨Try.t14, rfl, rfl, rfl, rfl⟩, fun _ => ⟨fun h => eg14.1, fun h => nomatch h⟩⟩
theorem tf15 : TyFact Try.prog 15 ⟨Try.t15.desc, Try.t15.size, Try.t15.bytes, Try.t15.zero, false, false⟩ := ⟨Try.underlying15, ⟨Try.t15, rfl, rfl, rfl, rfl⟩, fun ⟨_, h⟩ => by cases h⟩
theorem tf16 : TyFact Try.prog 16 ⟨Try.t16.desc, Try.t16.size, Try.t16.bytes, Try.t16.zero, false, false⟩ := ⟨Try.underlying16, ⟨Try.t16, rfl, rfl, rfl, rfl⟩, fun ⟨_, h⟩ => by cases h⟩
theorem tf17 : TyFact Try.prog 17 ⟨Try.t17.desc, Try.t17.size, Try.t17.bytes, Try.t17.zero, false, false⟩ := ⟨Try.underlying17, ⟨Try.t17, rfl, rfl, rfl, rfl⟩, fun ⟨_, h⟩ => by cases h⟩
theorem eg18 : (Try.prog.eqGuardType Try.prog.depth 18 = false) ∧ (Try.prog.stoodInHeld 18 = true) := ⟨by kernel_rfl, by kernel_rfl⟩
theorem tf18 : TyFact Try.prog 18 ⟨Try.t18.desc, Try.t18.size, Try.t18.bytes, Try.t18.zero, false, true⟩ := ⟨Try.underlying18, ⟨Try.t18, rfl, rfl, rfl, rfl⟩, fun _ => ⟨fun h => eg18.1, fun h => nomatch h⟩⟩
theorem eg19 : (Try.prog.eqGuardType Try.prog.depth 19 = false) ∧ (Try.prog.stoodInHeld 19 = true) := ⟨by kernel_rfl, by kernel_rfl⟩
theorem tf19 : TyFact Try.prog 19 ⟨Try.t18.desc, Try.t19.size, Try.t19.bytes, Try.t19.zero, false, true⟩ := ⟨Try.underlying19, ⟨Try.t19, rfl, rfl, rfl, rfl⟩, fun _ => ⟨fun h => eg19.1, fun h => nomatch h⟩⟩
theorem tf20 : TyFact Try.prog 20 ⟨Try.t20.desc, Try.t20.size, Try.t20.bytes, Try.t20.zero, false, false⟩ := ⟨Try.underlying20, ⟨Try.t20, rfl, rfl, rfl, rfl⟩, fun ⟨_, h⟩ => by cases h⟩
theorem tf21 : TyFact Try.prog 21 ⟨Try.t21.desc, Try.t21.size, Try.t21.bytes, Try.t21.zero, false, false⟩ := ⟨Try.underlying21, ⟨Try.t21, rfl, rfl, rfl, rfl⟩, fun ⟨_, h⟩ => by cases h⟩
theorem tf22 : TyFact Try.prog 22 ⟨Try.t3.desc, Try.t22.size, Try.t22.bytes, Try.t22.zero, false, false⟩ := ⟨Try.underlying22, ⟨Try.t22, rfl, rfl, rfl, rfl⟩, fun ⟨_, h⟩ => by cases h⟩
theorem tf23 : TyFact Try.prog 23 ⟨Try.t23.desc, Try.t23.size, Try.t23.bytes, Try.t23.zero, false, false⟩ := ⟨Try.underlying23, ⟨Try.t23, rfl, rfl, rfl, rfl⟩, fun ⟨_, h⟩ => by cases h⟩
theorem tf24 : TyFact Try.prog 24 ⟨Try.t24.desc, Try.t24.size, Try.t24.bytes, Try.t24.zero, false, false⟩ := ⟨Try.underlying24, ⟨Try.t24, rfl, rfl, rfl, rfl⟩, fun ⟨_, h⟩ => by cases h⟩
theorem tf25 : TyFact Try.prog 25 ⟨Try.t25.desc, Try.t25.size, Try.t25.bytes, Try.t25.zero, false, false⟩ := ⟨Try.underlying25, ⟨Try.t25, rfl, rfl, rfl, rfl⟩, fun ⟨_, h⟩ => by cases h⟩
theorem tf26 : TyFact Try.prog 26 ⟨Try.t26.desc, Try.t26.size, Try.t26.bytes, Try.t26.zero, false, false⟩ := ⟨Try.underlying26, ⟨Try.t26, rfl, rfl, rfl, rfl⟩, fun ⟨_, h⟩ => by cases h⟩
theorem tf27 : TyFact Try.prog 27 ⟨Try.t27.desc, Try.t27.size, Try.t27.bytes, Try.t27.zero, false, false⟩ := ⟨Try.underlying27, ⟨Try.t27, rfl, rfl, rfl, rfl⟩, fun ⟨_, h⟩ => by cases h⟩
theorem eg28 : (Try.prog.eqGuardType Try.prog.depth 28 = false) ∧ (Try.prog.stoodInHeld 28 = false) := ⟨by kernel_rfl, by kernel_rfl⟩
theorem tf28 : TyFact Try.prog 28 ⟨Try.t28.desc, Try.t28.size, Try.t28.bytes, Try.t28.zero, false, false⟩ := ⟨Try.underlying28, ⟨Try.t28, rfl, rfl, rfl, rfl⟩, fun _ => ⟨fun h => eg28.1, fun h => eg28.2⟩⟩
theorem eg29 : (Try.prog.eqGuardType Try.prog.depth 29 = false) ∧ (Try.prog.stoodInHeld 29 = false) := ⟨by kernel_rfl, by kernel_rfl⟩
theorem tf29 : TyFact Try.prog 29 ⟨Try.t28.desc, Try.t29.size, Try.t29.bytes, Try.t29.zero, false, false⟩ := ⟨Try.underlying29, ⟨Try.t29, rfl, rfl, rfl, rfl⟩, fun _ => ⟨fun h => eg29.1, fun h => eg29.2⟩⟩
theorem tf30 : TyFact Try.prog 30 ⟨Try.t30.desc, Try.t30.size, Try.t30.bytes, Try.t30.zero, false, false⟩ := ⟨Try.underlying30, ⟨Try.t30, rfl, rfl, rfl, rfl⟩, fun ⟨_, h⟩ => by cases h⟩
theorem tf31 : TyFact Try.prog 31 ⟨Try.t31.desc, Try.t31.size, Try.t31.bytes, Try.t31.zero, false, false⟩ := ⟨Try.underlying31, ⟨Try.t31, rfl, rfl, rfl, rfl⟩, fun ⟨_, h⟩ => by cases h⟩
theorem tf32 : TyFact Try.prog 32 ⟨Try.t5.desc, Try.t32.size, Try.t32.bytes, Try.t32.zero, false, false⟩ := ⟨Try.underlying32, ⟨Try.t32, rfl, rfl, rfl, rfl⟩, fun ⟨_, h⟩ => by cases h⟩
theorem eg33 : (Try.prog.eqGuardType Try.prog.depth 33 = false) ∧ (Try.prog.stoodInHeld 33 = false) := ⟨by kernel_rfl, by kernel_rfl⟩
theorem tf33 : TyFact Try.prog 33 ⟨Try.t33.desc, Try.t33.size, Try.t33.bytes, Try.t33.zero, false, false⟩ := ⟨Try.underlying33, ⟨Try.t33, rfl, rfl, rfl, rfl⟩, fun _ => ⟨fun h => eg33.1, fun h => eg33.2⟩⟩
theorem eg34 : (Try.prog.eqGuardType Try.prog.depth 34 = false) ∧ (Try.prog.stoodInHeld 34 = false) := ⟨by kernel_rfl, by kernel_rfl⟩
theorem tf34 : TyFact Try.prog 34 ⟨Try.t33.desc, Try.t34.size, Try.t34.bytes, Try.t34.zero, false, false⟩ := ⟨Try.underlying34, ⟨Try.t34, rfl, rfl, rfl, rfl⟩, fun _ => ⟨fun h => eg34.1, fun h => eg34.2⟩⟩
theorem tf35 : TyFact Try.prog 35 ⟨Try.t35.desc, Try.t35.size, Try.t35.bytes, Try.t35.zero, false, false⟩ := ⟨Try.underlying35, ⟨Try.t35, rfl, rfl, rfl, rfl⟩, fun ⟨_, h⟩ => by cases h⟩
theorem tf36 : TyFact Try.prog 36 ⟨Try.t36.desc, Try.t36.size, Try.t36.bytes, Try.t36.zero, false, false⟩ := ⟨Try.underlying36, ⟨Try.t36, rfl, rfl, rfl, rfl⟩, fun ⟨_, h⟩ => by cases h⟩
theorem tf37 : TyFact Try.prog 37 ⟨Try.t37.desc, Try.t37.size, Try.t37.bytes, Try.t37.zero, false, false⟩ := ⟨Try.underlying37, ⟨Try.t37, rfl, rfl, rfl, rfl⟩, fun ⟨_, h⟩ => by cases h⟩
theorem tf38 : TyFact Try.prog 38 ⟨Try.t38.desc, Try.t38.size, Try.t38.bytes, Try.t38.zero, false, false⟩ := ⟨Try.underlying38, ⟨Try.t38, rfl, rfl, rfl, rfl⟩, fun ⟨_, h⟩ => by cases h⟩
theorem tf39 : TyFact Try.prog 39 ⟨Try.t39.desc, Try.t39.size, Try.t39.bytes, Try.t39.zero, false, false⟩ := ⟨Try.underlying39, ⟨Try.t39, rfl, rfl, rfl, rfl⟩, fun ⟨_, h⟩ => by cases h⟩
theorem tf40 : TyFact Try.prog 40 ⟨Try.t40.desc, Try.t40.size, Try.t40.bytes, Try.t40.zero, false, false⟩ := ⟨Try.underlying40, ⟨Try.t40, rfl, rfl, rfl, rfl⟩, fun ⟨_, h⟩ => by cases h⟩
theorem tf41 : TyFact Try.prog 41 ⟨Try.t41.desc, Try.t41.size, Try.t41.bytes, Try.t41.zero, false, false⟩ := ⟨Try.underlying41, ⟨Try.t41, rfl, rfl, rfl, rfl⟩, fun ⟨_, h⟩ => by cases h⟩
theorem tf42 : TyFact Try.prog 42 ⟨Try.t42.desc, Try.t42.size, Try.t42.bytes, Try.t42.zero, false, false⟩ := ⟨Try.underlying42, ⟨Try.t42, rfl, rfl, rfl, rfl⟩, fun ⟨_, h⟩ => by cases h⟩
theorem tf43 : TyFact Try.prog 43 ⟨Try.t43.desc, Try.t43.size, Try.t43.bytes, Try.t43.zero, false, false⟩ := ⟨Try.underlying43, ⟨Try.t43, rfl, rfl, rfl, rfl⟩, fun ⟨_, h⟩ => by cases h⟩
theorem tf44 : TyFact Try.prog 44 ⟨Try.t44.desc, Try.t44.size, Try.t44.bytes, Try.t44.zero, false, false⟩ := ⟨Try.underlying44, ⟨Try.t44, rfl, rfl, rfl, rfl⟩, fun ⟨_, h⟩ => by cases h⟩
theorem tf45 : TyFact Try.prog 45 ⟨Try.t45.desc, Try.t45.size, Try.t45.bytes, Try.t45.zero, false, false⟩ := ⟨Try.underlying45, ⟨Try.t45, rfl, rfl, rfl, rfl⟩, fun ⟨_, h⟩ => by cases h⟩
theorem tf46 : TyFact Try.prog 46 ⟨Try.t46.desc, Try.t46.size, Try.t46.bytes, Try.t46.zero, false, false⟩ := ⟨Try.underlying46, ⟨Try.t46, rfl, rfl, rfl, rfl⟩, fun ⟨_, h⟩ => by cases h⟩
theorem tf47 : TyFact Try.prog 47 ⟨Try.t47.desc, Try.t47.size, Try.t47.bytes, Try.t47.zero, false, false⟩ := ⟨Try.underlying47, ⟨Try.t47, rfl, rfl, rfl, rfl⟩, fun ⟨_, h⟩ => by cases h⟩
theorem tf48 : TyFact Try.prog 48 ⟨Try.t48.desc, Try.t48.size, Try.t48.bytes, Try.t48.zero, false, false⟩ := ⟨Try.underlying48, ⟨Try.t48, rfl, rfl, rfl, rfl⟩, fun ⟨_, h⟩ => by cases h⟩
theorem tf49 : TyFact Try.prog 49 ⟨Try.t49.desc, Try.t49.size, Try.t49.bytes, Try.t49.zero, false, false⟩ := ⟨Try.underlying49, ⟨Try.t49, rfl, rfl, rfl, rfl⟩, fun ⟨_, h⟩ => by cases h⟩
theorem tf50 : TyFact Try.prog 50 ⟨Try.t50.desc, Try.t50.size, Try.t50.bytes, Try.t50.zero, false, false⟩ := ⟨Try.underlying50, ⟨Try.t50, rfl, rfl, rfl, rfl⟩, fun ⟨_, h⟩ => by cases h⟩
theorem tf51 : TyFact Try.prog 51 ⟨Try.t51.desc, Try.t51.size, Try.t51.bytes, Try.t51.zero, false, false⟩ := ⟨Try.underlying51, ⟨Try.t51, rfl, rfl, rfl, rfl⟩, fun ⟨_, h⟩ => by cases h⟩
theorem eg52 : (Try.prog.eqGuardType Try.prog.depth 52 = false) ∧ (Try.prog.stoodInHeld 52 = true) := ⟨by kernel_rfl, by kernel_rfl⟩
theorem tf52 : TyFact Try.prog 52 ⟨Try.t52.desc, Try.t52.size, Try.t52.bytes, Try.t52.zero, false, true⟩ := ⟨Try.underlying52, ⟨Try.t52, rfl, rfl, rfl, rfl⟩, fun _ => ⟨fun h => eg52.1, fun h => nomatch h⟩⟩
theorem eg53 : (Try.prog.eqGuardType Try.prog.depth 53 = false) ∧ (Try.prog.stoodInHeld 53 = true) := ⟨by kernel_rfl, by kernel_rfl⟩
theorem tf53 : TyFact Try.prog 53 ⟨Try.t52.desc, Try.t53.size, Try.t53.bytes, Try.t53.zero, false, true⟩ := ⟨Try.underlying53, ⟨Try.t53, rfl, rfl, rfl, rfl⟩, fun _ => ⟨fun h => eg53.1, fun h => nomatch h⟩⟩
theorem tf54 : TyFact Try.prog 54 ⟨Try.t54.desc, Try.t54.size, Try.t54.bytes, Try.t54.zero, false, false⟩ := ⟨Try.underlying54, ⟨Try.t54, rfl, rfl, rfl, rfl⟩, fun ⟨_, h⟩ => by cases h⟩
theorem eg55 : (Try.prog.eqGuardType Try.prog.depth 55 = false) ∧ (Try.prog.stoodInHeld 55 = true) := ⟨by kernel_rfl, by kernel_rfl⟩
theorem tf55 : TyFact Try.prog 55 ⟨Try.t55.desc, Try.t55.size, Try.t55.bytes, Try.t55.zero, false, true⟩ := ⟨Try.underlying55, ⟨Try.t55, rfl, rfl, rfl, rfl⟩, fun _ => ⟨fun h => eg55.1, fun h => nomatch h⟩⟩
theorem eg56 : (Try.prog.eqGuardType Try.prog.depth 56 = false) ∧ (Try.prog.stoodInHeld 56 = true) := ⟨by kernel_rfl, by kernel_rfl⟩
theorem tf56 : TyFact Try.prog 56 ⟨Try.t55.desc, Try.t56.size, Try.t56.bytes, Try.t56.zero, false, true⟩ := ⟨Try.underlying56, ⟨Try.t56, rfl, rfl, rfl, rfl⟩, fun _ => ⟨fun h => eg56.1, fun h => nomatch h⟩⟩
theorem tf57 : TyFact Try.prog 57 ⟨Try.t57.desc, Try.t57.size, Try.t57.bytes, Try.t57.zero, false, false⟩ := ⟨Try.underlying57, ⟨Try.t57, rfl, rfl, rfl, rfl⟩, fun ⟨_, h⟩ => by cases h⟩
theorem tf58 : TyFact Try.prog 58 ⟨Try.t5.desc, Try.t58.size, Try.t58.bytes, Try.t58.zero, false, false⟩ := ⟨Try.underlying58, ⟨Try.t58, rfl, rfl, rfl, rfl⟩, fun ⟨_, h⟩ => by cases h⟩
theorem tf59 : TyFact Try.prog 59 ⟨Try.t5.desc, Try.t59.size, Try.t59.bytes, Try.t59.zero, false, false⟩ := ⟨Try.underlying59, ⟨Try.t59, rfl, rfl, rfl, rfl⟩, fun ⟨_, h⟩ => by cases h⟩
theorem tf60 : TyFact Try.prog 60 ⟨Try.t60.desc, Try.t60.size, Try.t60.bytes, Try.t60.zero, false, false⟩ := ⟨Try.underlying60, ⟨Try.t60, rfl, rfl, rfl, rfl⟩, fun ⟨_, h⟩ => by cases h⟩
theorem tf61 : TyFact Try.prog 61 ⟨Try.t61.desc, Try.t61.size, Try.t61.bytes, Try.t61.zero, false, false⟩ := ⟨Try.underlying61, ⟨Try.t61, rfl, rfl, rfl, rfl⟩, fun ⟨_, h⟩ => by cases h⟩
theorem tf62 : TyFact Try.prog 62 ⟨Try.t21.desc, Try.t62.size, Try.t62.bytes, Try.t62.zero, false, false⟩ := ⟨Try.underlying62, ⟨Try.t62, rfl, rfl, rfl, rfl⟩, fun ⟨_, h⟩ => by cases h⟩
theorem tf63 : TyFact Try.prog 63 ⟨Try.t21.desc, Try.t63.size, Try.t63.bytes, Try.t63.zero, false, false⟩ := ⟨Try.underlying63, ⟨Try.t63, rfl, rfl, rfl, rfl⟩, fun ⟨_, h⟩ => by cases h⟩
theorem eg64 : (Try.prog.eqGuardType Try.prog.depth 64 = false) ∧ (Try.prog.stoodInHeld 64 = true) := ⟨by kernel_rfl, by kernel_rfl⟩
theorem tf64 : TyFact Try.prog 64 ⟨Try.t64.desc, Try.t64.size, Try.t64.bytes, Try.t64.zero, false, true⟩ := ⟨Try.underlying64, ⟨Try.t64, rfl, rfl, rfl, rfl⟩, fun _ => ⟨fun h => eg64.1, fun h => nomatch h⟩⟩
theorem eg65 : (Try.prog.eqGuardType Try.prog.depth 65 = false) ∧ (Try.prog.stoodInHeld 65 = true) := ⟨by kernel_rfl, by kernel_rfl⟩
theorem tf65 : TyFact Try.prog 65 ⟨Try.t64.desc, Try.t65.size, Try.t65.bytes, Try.t65.zero, false, true⟩ := ⟨Try.underlying65, ⟨Try.t65, rfl, rfl, rfl, rfl⟩, fun _ => ⟨fun h => eg65.1, fun h => nomatch h⟩⟩
theorem tf66 : TyFact Try.prog 66 ⟨Try.t66.desc, Try.t66.size, Try.t66.bytes, Try.t66.zero, false, false⟩ := ⟨Try.underlying66, ⟨Try.t66, rfl, rfl, rfl, rfl⟩, fun ⟨_, h⟩ => by cases h⟩
theorem tysOK : tys.All (TyFact Try.prog) id := ⟨tf0, ⟨tf1, ⟨tf3, ⟨tf7, ⟨tf15, ⟨tf31, ⟨tf63, trivial, trivial⟩, trivial⟩, ⟨tf47, trivial, trivial⟩⟩, ⟨tf23, ⟨tf39, trivial, trivial⟩, ⟨tf55, trivial, trivial⟩⟩⟩, ⟨tf11, ⟨tf19, ⟨tf35, trivial, trivial⟩, ⟨tf51, trivial, trivial⟩⟩, ⟨tf27, ⟨tf43, trivial, trivial⟩, ⟨tf59, trivial, trivial⟩⟩⟩⟩, ⟨tf5, ⟨tf9, ⟨tf17, ⟨tf33, ⟨tf65, trivial, trivial⟩, trivial⟩, ⟨tf49, trivial, trivial⟩⟩, ⟨tf25, ⟨tf41, trivial, trivial⟩, ⟨tf57, trivial, trivial⟩⟩⟩, ⟨tf13, ⟨tf21, ⟨tf37, trivial, trivial⟩, ⟨tf53, trivial, trivial⟩⟩, ⟨tf29, ⟨tf45, trivial, trivial⟩, ⟨tf61, trivial, trivial⟩⟩⟩⟩⟩, ⟨tf2, ⟨tf4, ⟨tf8, ⟨tf16, ⟨tf32, ⟨tf64, trivial, trivial⟩, trivial⟩, ⟨tf48, trivial, trivial⟩⟩, ⟨tf24, ⟨tf40, trivial, trivial⟩, ⟨tf56, trivial, trivial⟩⟩⟩, ⟨tf12, ⟨tf20, ⟨tf36, trivial, trivial⟩, ⟨tf52, trivial, trivial⟩⟩, ⟨tf28, ⟨tf44, trivial, trivial⟩, ⟨tf60, trivial, trivial⟩⟩⟩⟩, ⟨tf6, ⟨tf10, ⟨tf18, ⟨tf34, ⟨tf66, trivial, trivial⟩, trivial⟩, ⟨tf50, trivial, trivial⟩⟩, ⟨tf26, ⟨tf42, trivial, trivial⟩, ⟨tf58, trivial, trivial⟩⟩⟩, ⟨tf14, ⟨tf22, ⟨tf38, trivial, trivial⟩, ⟨tf54, trivial, trivial⟩⟩, ⟨tf30, ⟨tf46, trivial, trivial⟩, ⟨tf62, trivial, trivial⟩⟩⟩⟩⟩⟩
theorem fnsOK : fns.All (FnFact Try.prog) id := ⟨trivial, ⟨trivial, ⟨⟨Try.func3, Try.call3⟩, ⟨⟨Try.func7, Try.call7⟩, ⟨⟨Try.func15, Try.call15⟩, ⟨⟨Try.func31, Try.call31⟩, trivial, trivial⟩, ⟨trivial, trivial, trivial⟩⟩, ⟨⟨Try.func23, Try.call23⟩, ⟨trivial, trivial, trivial⟩, trivial⟩⟩, ⟨⟨Try.func11, Try.call11⟩, ⟨⟨Try.func19, Try.call19⟩, ⟨trivial, trivial, trivial⟩, trivial⟩, ⟨⟨Try.func27, Try.call27⟩, ⟨trivial, trivial, trivial⟩, trivial⟩⟩⟩, ⟨⟨Try.func5, Try.call5⟩, ⟨⟨Try.func9, Try.call9⟩, ⟨⟨Try.func17, Try.call17⟩, ⟨trivial, trivial, trivial⟩, trivial⟩, ⟨⟨Try.func25, Try.call25⟩, ⟨trivial, trivial, trivial⟩, trivial⟩⟩, ⟨⟨Try.func13, Try.call13⟩, ⟨⟨Try.func21, Try.call21⟩, ⟨trivial, trivial, trivial⟩, trivial⟩, ⟨⟨Try.func29, Try.call29⟩, ⟨trivial, trivial, trivial⟩, trivial⟩⟩⟩⟩, ⟨⟨Try.func2, Try.call2⟩, ⟨⟨Try.func4, Try.call4⟩, ⟨⟨Try.func8, Try.call8⟩, ⟨⟨Try.func16, Try.call16⟩, ⟨⟨Try.func32, Try.call32⟩, trivial, trivial⟩, ⟨trivial, trivial, trivial⟩⟩, ⟨⟨Try.func24, Try.call24⟩, ⟨trivial, trivial, trivial⟩, trivial⟩⟩, ⟨⟨Try.func12, Try.call12⟩, ⟨⟨Try.func20, Try.call20⟩, ⟨trivial, trivial, trivial⟩, trivial⟩, ⟨⟨Try.func28, Try.call28⟩, ⟨trivial, trivial, trivial⟩, trivial⟩⟩⟩, ⟨⟨Try.func6, Try.call6⟩, ⟨⟨Try.func10, Try.call10⟩, ⟨⟨Try.func18, Try.call18⟩, ⟨trivial, trivial, trivial⟩, trivial⟩, ⟨⟨Try.func26, Try.call26⟩, ⟨trivial, trivial, trivial⟩, trivial⟩⟩, ⟨⟨Try.func14, Try.call14⟩, ⟨⟨Try.func22, Try.call22⟩, ⟨trivial, trivial, trivial⟩, trivial⟩, ⟨⟨Try.func30, Try.call30⟩, ⟨trivial, trivial, trivial⟩, trivial⟩⟩⟩⟩⟩
theorem mixedOK : Try.prog.follows .mixedOrders = true := by kernel_rfl
end Go.Proofs.Ytoeipbkoeclbeaa
