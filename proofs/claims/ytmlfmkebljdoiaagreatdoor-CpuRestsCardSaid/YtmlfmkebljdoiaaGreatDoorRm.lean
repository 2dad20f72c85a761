/- Own text: the model: those that rest. -/

import Derived.Test.YtmlfmkebljdoiaaGreatDoorGd
namespace Go.Proofs.YtmlfmkebljdoiaaGreatDoor
open Go.Ev Go.Ev.Tr Go.Proofs
set_option maxRecDepth 1000000
/-- Behind the opcode. -/
noncomputable def CC (g : Rg) (op : Int) : Cpu := (tickM (ofR (z false g)) op 0).1
noncomputable def CSt (g : Rg) (d : Int) : Cpu := (tickM (CC g 16) d 0).1
/-- What is to be known of one that rests. -/
structure Rest (c : Cpu) (A st pc : Int) (nf : Int → Int) : Prop where
  w : (c.want.k, c.want.a, c.want.d, c.regs.St, c.regs.PC, c.regs.A, okC c) = ((0 : Int), (0 : Int), (0 : Int), st, pc, A, true)
  t : ∀ j, tickM c 0 (nf j % 32) = (c, 0)
theorem fst0 : (fun g m => firstF (z false g) m 118) = (fun g m => some (1, CC g 118, m)) := by kernel_rfl
theorem wnt0 : (fun g => ((CC g 118).want.k, (CC g 118).want.a, (CC g 118).want.d, (CC g 118).regs.St, (CC g 118).regs.PC, (CC g 118).regs.A, okC (CC g 118))) = (fun g => ((0 : Int), (0 : Int), (0 : Int), (1 : Int), nxt g.PC, g.A, true)) := by kernel_rfl
theorem stl0 : (fun g => tickM (CC g 118) 0 (0 % 32)) = (fun g => (CC g 118, 0)) := by kernel_rfl
theorem go0_0 : (fun g => ((tickM (CC g 118) 0 (1 % 32)).2, (tickM (CC g 118) 0 (1 % 32)).1.regs.St, (tickM (CC g 118) 0 (1 % 32)).1.want.k, (tickM (CC g 118) 0 (1 % 32)).1.want.a)) = (fun g => ((0 : Int), (0 : Int), (1 : Int), nxt g.PC)) := by kernel_rfl
theorem go0_1 : (fun g => ((tickM (CC g 118) 0 (2 % 32)).2, (tickM (CC g 118) 0 (2 % 32)).1.regs.St, (tickM (CC g 118) 0 (2 % 32)).1.want.k, (tickM (CC g 118) 0 (2 % 32)).1.want.a)) = (fun g => ((0 : Int), (0 : Int), (1 : Int), nxt g.PC)) := by kernel_rfl
theorem go0_2 : (fun g => ((tickM (CC g 118) 0 (4 % 32)).2, (tickM (CC g 118) 0 (4 % 32)).1.regs.St, (tickM (CC g 118) 0 (4 % 32)).1.want.k, (tickM (CC g 118) 0 (4 % 32)).1.want.a)) = (fun g => ((0 : Int), (0 : Int), (1 : Int), nxt g.PC)) := by kernel_rfl
theorem go0_3 : (fun g => ((tickM (CC g 118) 0 (8 % 32)).2, (tickM (CC g 118) 0 (8 % 32)).1.regs.St, (tickM (CC g 118) 0 (8 % 32)).1.want.k, (tickM (CC g 118) 0 (8 % 32)).1.want.a)) = (fun g => ((0 : Int), (0 : Int), (1 : Int), nxt g.PC)) := by kernel_rfl
theorem go0_4 : (fun g => ((tickM (CC g 118) 0 (16 % 32)).2, (tickM (CC g 118) 0 (16 % 32)).1.regs.St, (tickM (CC g 118) 0 (16 % 32)).1.want.k, (tickM (CC g 118) 0 (16 % 32)).1.want.a)) = (fun g => ((0 : Int), (0 : Int), (1 : Int), nxt g.PC)) := by kernel_rfl
theorem fst1 : (fun g m => firstF (z false g) m 16) = (fun g m => some (2, CSt g (at1 m g), m)) := by kernel_rfl
theorem wnt1 : (fun g d => ((CSt g d).want.k, (CSt g d).want.a, (CSt g d).want.d, (CSt g d).regs.St, (CSt g d).regs.PC, (CSt g d).regs.A, okC (CSt g d))) = (fun g d => ((0 : Int), (0 : Int), (0 : Int), (2 : Int), nxt (nxt g.PC), g.A, true)) := by kernel_rfl
theorem stl1 : (fun g d => tickM (CSt g d) 0 (0 % 32)) = (fun g d => (CSt g d, 0)) := by kernel_rfl
theorem go1_0 : (fun g d => ((tickM (CSt g d) 0 (1 % 32)).2, (tickM (CSt g d) 0 (1 % 32)).1.regs.St, (tickM (CSt g d) 0 (1 % 32)).1.want.k, (tickM (CSt g d) 0 (1 % 32)).1.want.a)) = (fun g d => ((0 : Int), (0 : Int), (1 : Int), nxt (nxt g.PC))) := by kernel_rfl
theorem go1_1 : (fun g d => ((tickM (CSt g d) 0 (2 % 32)).2, (tickM (CSt g d) 0 (2 % 32)).1.regs.St, (tickM (CSt g d) 0 (2 % 32)).1.want.k, (tickM (CSt g d) 0 (2 % 32)).1.want.a)) = (fun g d => ((0 : Int), (0 : Int), (1 : Int), nxt (nxt g.PC))) := by kernel_rfl
theorem go1_2 : (fun g d => ((tickM (CSt g d) 0 (4 % 32)).2, (tickM (CSt g d) 0 (4 % 32)).1.regs.St, (tickM (CSt g d) 0 (4 % 32)).1.want.k, (tickM (CSt g d) 0 (4 % 32)).1.want.a)) = (fun g d => ((0 : Int), (0 : Int), (1 : Int), nxt (nxt g.PC))) := by kernel_rfl
theorem go1_3 : (fun g d => ((tickM (CSt g d) 0 (8 % 32)).2, (tickM (CSt g d) 0 (8 % 32)).1.regs.St, (tickM (CSt g d) 0 (8 % 32)).1.want.k, (tickM (CSt g d) 0 (8 % 32)).1.want.a)) = (fun g d => ((0 : Int), (0 : Int), (1 : Int), nxt (nxt g.PC))) := by kernel_rfl
theorem go1_4 : (fun g d => ((tickM (CSt g d) 0 (16 % 32)).2, (tickM (CSt g d) 0 (16 % 32)).1.regs.St, (tickM (CSt g d) 0 (16 % 32)).1.want.k, (tickM (CSt g d) 0 (16 % 32)).1.want.a)) = (fun g d => ((0 : Int), (0 : Int), (1 : Int), nxt (nxt g.PC))) := by kernel_rfl
theorem fst2 : (fun g m => firstF (z false g) m 211) = (fun g m => some (1, CC g 211, m)) := by kernel_rfl
theorem wnt2 : (fun g => ((CC g 211).want.k, (CC g 211).want.a, (CC g 211).want.d, (CC g 211).regs.St, (CC g 211).regs.PC, (CC g 211).regs.A, okC (CC g 211))) = (fun g => ((0 : Int), (0 : Int), (0 : Int), (3 : Int), nxt g.PC, g.A, true)) := by kernel_rfl
theorem stl2 : (fun g l => tickM (CC g 211) 0 l) = (fun g l => (CC g 211, 0)) := by kernel_rfl
theorem fst3 : (fun g m => firstF (z false g) m 219) = (fun g m => some (1, CC g 219, m)) := by kernel_rfl
theorem wnt3 : (fun g => ((CC g 219).want.k, (CC g 219).want.a, (CC g 219).want.d, (CC g 219).regs.St, (CC g 219).regs.PC, (CC g 219).regs.A, okC (CC g 219))) = (fun g => ((0 : Int), (0 : Int), (0 : Int), (3 : Int), nxt g.PC, g.A, true)) := by kernel_rfl
theorem stl3 : (fun g l => tickM (CC g 219) 0 l) = (fun g l => (CC g 219, 0)) := by kernel_rfl
theorem fst4 : (fun g m => firstF (z false g) m 221) = (fun g m => some (1, CC g 221, m)) := by kernel_rfl
theorem wnt4 : (fun g => ((CC g 221).want.k, (CC g 221).want.a, (CC g 221).want.d, (CC g 221).regs.St, (CC g 221).regs.PC, (CC g 221).regs.A, okC (CC g 221))) = (fun g => ((0 : Int), (0 : Int), (0 : Int), (3 : Int), nxt g.PC, g.A, true)) := by kernel_rfl
theorem stl4 : (fun g l => tickM (CC g 221) 0 l) = (fun g l => (CC g 221, 0)) := by kernel_rfl
theorem fst5 : (fun g m => firstF (z false g) m 227) = (fun g m => some (1, CC g 227, m)) := by kernel_rfl
theorem wnt5 : (fun g => ((CC g 227).want.k, (CC g 227).want.a, (CC g 227).want.d, (CC g 227).regs.St, (CC g 227).regs.PC, (CC g 227).regs.A, okC (CC g 227))) = (fun g => ((0 : Int), (0 : Int), (0 : Int), (3 : Int), nxt g.PC, g.A, true)) := by kernel_rfl
theorem stl5 : (fun g l => tickM (CC g 227) 0 l) = (fun g l => (CC g 227, 0)) := by kernel_rfl
theorem fst6 : (fun g m => firstF (z false g) m 228) = (fun g m => some (1, CC g 228, m)) := by kernel_rfl
theorem wnt6 : (fun g => ((CC g 228).want.k, (CC g 228).want.a, (CC g 228).want.d, (CC g 228).regs.St, (CC g 228).regs.PC, (CC g 228).regs.A, okC (CC g 228))) = (fun g => ((0 : Int), (0 : Int), (0 : Int), (3 : Int), nxt g.PC, g.A, true)) := by kernel_rfl
theorem stl6 : (fun g l => tickM (CC g 228) 0 l) = (fun g l => (CC g 228, 0)) := by kernel_rfl
theorem fst7 : (fun g m => firstF (z false g) m 235) = (fun g m => some (1, CC g 235, m)) := by kernel_rfl
theorem wnt7 : (fun g => ((CC g 235).want.k, (CC g 235).want.a, (CC g 235).want.d, (CC g 235).regs.St, (CC g 235).regs.PC, (CC g 235).regs.A, okC (CC g 235))) = (fun g => ((0 : Int), (0 : Int), (0 : Int), (3 : Int), nxt g.PC, g.A, true)) := by kernel_rfl
theorem stl7 : (fun g l => tickM (CC g 235) 0 l) = (fun g l => (CC g 235, 0)) := by kernel_rfl
theorem fst8 : (fun g m => firstF (z false g) m 236) = (fun g m => some (1, CC g 236, m)) := by kernel_rfl
theorem wnt8 : (fun g => ((CC g 236).want.k, (CC g 236).want.a, (CC g 236).want.d, (CC g 236).regs.St, (CC g 236).regs.PC, (CC g 236).regs.A, okC (CC g 236))) = (fun g => ((0 : Int), (0 : Int), (0 : Int), (3 : Int), nxt g.PC, g.A, true)) := by kernel_rfl
theorem stl8 : (fun g l => tickM (CC g 236) 0 l) = (fun g l => (CC g 236, 0)) := by kernel_rfl
theorem fst9 : (fun g m => firstF (z false g) m 237) = (fun g m => some (1, CC g 237, m)) := by kernel_rfl
theorem wnt9 : (fun g => ((CC g 237).want.k, (CC g 237).want.a, (CC g 237).want.d, (CC g 237).regs.St, (CC g 237).regs.PC, (CC g 237).regs.A, okC (CC g 237))) = (fun g => ((0 : Int), (0 : Int), (0 : Int), (3 : Int), nxt g.PC, g.A, true)) := by kernel_rfl
theorem stl9 : (fun g l => tickM (CC g 237) 0 l) = (fun g l => (CC g 237, 0)) := by kernel_rfl
theorem fst10 : (fun g m => firstF (z false g) m 244) = (fun g m => some (1, CC g 244, m)) := by kernel_rfl
theorem wnt10 : (fun g => ((CC g 244).want.k, (CC g 244).want.a, (CC g 244).want.d, (CC g 244).regs.St, (CC g 244).regs.PC, (CC g 244).regs.A, okC (CC g 244))) = (fun g => ((0 : Int), (0 : Int), (0 : Int), (3 : Int), nxt g.PC, g.A, true)) := by kernel_rfl
theorem stl10 : (fun g l => tickM (CC g 244) 0 l) = (fun g l => (CC g 244, 0)) := by kernel_rfl
theorem fst11 : (fun g m => firstF (z false g) m 252) = (fun g m => some (1, CC g 252, m)) := by kernel_rfl
theorem wnt11 : (fun g => ((CC g 252).want.k, (CC g 252).want.a, (CC g 252).want.d, (CC g 252).regs.St, (CC g 252).regs.PC, (CC g 252).regs.A, okC (CC g 252))) = (fun g => ((0 : Int), (0 : Int), (0 : Int), (3 : Int), nxt g.PC, g.A, true)) := by kernel_rfl
theorem stl11 : (fun g l => tickM (CC g 252) 0 l) = (fun g l => (CC g 252, 0)) := by kernel_rfl
theorem fst12 : (fun g m => firstF (z false g) m 253) = (fun g m => some (1, CC g 253, m)) := by kernel_rfl
theorem wnt12 : (fun g => ((CC g 253).want.k, (CC g 253).want.a, (CC g 253).want.d, (CC g 253).regs.St, (CC g 253).regs.PC, (CC g 253).regs.A, okC (CC g 253))) = (fun g => ((0 : Int), (0 : Int), (0 : Int), (3 : Int), nxt g.PC, g.A, true)) := by kernel_rfl
theorem stl12 : (fun g l => tickM (CC g 253) 0 l) = (fun g l => (CC g 253, 0)) := by kernel_rfl
end Go.Proofs.YtmlfmkebljdoiaaGreatDoor
