/- What is proved here: the table of types says what the program says. -/
import Derived.Test.YtompaigbpfekhaaGreatDoorProg
import Derived.KernelRfl
import Derived.Test.YtompaigbpfekhaaGreatDoorHopRun
namespace Go.Hop
open Go.Proofs
def tyE (i : TypeInfo) (d : TypeDesc) : TyE := ⟨d, i.size, match i.zero with | some z => z.cells.toList | none => [], i.bytes⟩
theorem tyOK {P : Program} {t : Nat} {i : TypeInfo} {d : TypeDesc} (h1 : P.underlying t = some d) (h2 : P.info? t = some i) {z : Value} (h3 : i.zero = some z) : TyOK P t (tyE i d) :=
  ⟨h1, i, h2, rfl, rfl, z, h3, by simp [tyE, h3]⟩
noncomputable def tab : Tab := (.node (.node (.node (.node (.node .nil 2 (tyE Tryz.t2 Tryz.t2.desc) .nil) 3 (tyE Tryz.t3 Tryz.t3.desc) .nil) 4 (tyE Tryz.t4 Tryz.t4.desc) (.node (.node .nil 5 (tyE Tryz.t5 Tryz.t5.desc) .nil) 9 (tyE Tryz.t9 Tryz.t9.desc) .nil)) 21 (tyE Tryz.t21 Tryz.t21.desc) (.node (.node (.node .nil 22 (tyE Tryz.t22 Tryz.t22.desc) .nil) 26 (tyE Tryz.t26 Tryz.t25.desc) .nil) 30 (tyE Tryz.t30 Tryz.t30.desc) (.node (.node .nil 36 (tyE Tryz.t36 Tryz.t36.desc) .nil) 37 (tyE Tryz.t37 Tryz.t37.desc) .nil))) 40 (tyE Tryz.t40 Tryz.t40.desc) (.node (.node (.node (.node .nil 44 (tyE Tryz.t44 Tryz.t43.desc) .nil) 45 (tyE Tryz.t45 Tryz.t45.desc) .nil) 51 (tyE Tryz.t51 Tryz.t51.desc) (.node (.node .nil 63 (tyE Tryz.t63 Tryz.t63.desc) .nil) 64 (tyE Tryz.t64 Tryz.t3.desc) .nil)) 66 (tyE Tryz.t66 Tryz.t65.desc) (.node (.node (.node .nil 67 (tyE Tryz.t67 Tryz.t67.desc) .nil) 69 (tyE Tryz.t69 Tryz.t68.desc) .nil) 74 (tyE Tryz.t74 Tryz.t74.desc) (.node .nil 81 (tyE Tryz.t81 Tryz.t80.desc) .nil))))
theorem ty2 : TyOK Tryz.prog 2 (tyE Tryz.t2 Tryz.t2.desc) := tyOK (by kernel_rfl) (by kernel_rfl) rfl
theorem ty3 : TyOK Tryz.prog 3 (tyE Tryz.t3 Tryz.t3.desc) := tyOK (by kernel_rfl) (by kernel_rfl) rfl
theorem ty4 : TyOK Tryz.prog 4 (tyE Tryz.t4 Tryz.t4.desc) := tyOK (by kernel_rfl) (by kernel_rfl) rfl
theorem ty5 : TyOK Tryz.prog 5 (tyE Tryz.t5 Tryz.t5.desc) := tyOK (by kernel_rfl) (by kernel_rfl) rfl
theorem ty9 : TyOK Tryz.prog 9 (tyE Tryz.t9 Tryz.t9.desc) := tyOK (by kernel_rfl) (by kernel_rfl) rfl
theorem ty21 : TyOK Tryz.prog 21 (tyE Tryz.t21 Tryz.t21.desc) := tyOK (by kernel_rfl) (by kernel_rfl) rfl
theorem ty22 : TyOK Tryz.prog 22 (tyE Tryz.t22 Tryz.t22.desc) := tyOK (by kernel_rfl) (by kernel_rfl) rfl
theorem ty26 : TyOK Tryz.prog 26 (tyE Tryz.t26 Tryz.t25.desc) := tyOK (by kernel_rfl) (by kernel_rfl) rfl
theorem ty30 : TyOK Tryz.prog 30 (tyE Tryz.t30 Tryz.t30.desc) := tyOK (by kernel_rfl) (by kernel_rfl) rfl
theorem ty36 : TyOK Tryz.prog 36 (tyE Tryz.t36 Tryz.t36.desc) := tyOK (by kernel_rfl) (by kernel_rfl) rfl
theorem ty37 : TyOK Tryz.prog 37 (tyE Tryz.t37 Tryz.t37.desc) := tyOK (by kernel_rfl) (by kernel_rfl) rfl
theorem ty40 : TyOK Tryz.prog 40 (tyE Tryz.t40 Tryz.t40.desc) := tyOK (by kernel_rfl) (by kernel_rfl) rfl
theorem ty44 : TyOK Tryz.prog 44 (tyE Tryz.t44 Tryz.t43.desc) := tyOK (by kernel_rfl) (by kernel_rfl) rfl
theorem ty45 : TyOK Tryz.prog 45 (tyE Tryz.t45 Tryz.t45.desc) := tyOK (by kernel_rfl) (by kernel_rfl) rfl
theorem ty51 : TyOK Tryz.prog 51 (tyE Tryz.t51 Tryz.t51.desc) := tyOK (by kernel_rfl) (by kernel_rfl) rfl
theorem ty63 : TyOK Tryz.prog 63 (tyE Tryz.t63 Tryz.t63.desc) := tyOK (by kernel_rfl) (by kernel_rfl) rfl
theorem ty64 : TyOK Tryz.prog 64 (tyE Tryz.t64 Tryz.t3.desc) := tyOK (by kernel_rfl) (by kernel_rfl) rfl
theorem ty66 : TyOK Tryz.prog 66 (tyE Tryz.t66 Tryz.t65.desc) := tyOK (by kernel_rfl) (by kernel_rfl) rfl
theorem ty67 : TyOK Tryz.prog 67 (tyE Tryz.t67 Tryz.t67.desc) := tyOK (by kernel_rfl) (by kernel_rfl) rfl
theorem ty69 : TyOK Tryz.prog 69 (tyE Tryz.t69 Tryz.t68.desc) := tyOK (by kernel_rfl) (by kernel_rfl) rfl
theorem ty74 : TyOK Tryz.prog 74 (tyE Tryz.t74 Tryz.t74.desc) := tyOK (by kernel_rfl) (by kernel_rfl) rfl
theorem ty81 : TyOK Tryz.prog 81 (tyE Tryz.t81 Tryz.t80.desc) := tyOK (by kernel_rfl) (by kernel_rfl) rfl
theorem tabOK : tab.OK Tryz.prog := ⟨⟨⟨⟨⟨trivial, ty2, trivial⟩, ty3, trivial⟩, ty4, ⟨⟨trivial, ty5, trivial⟩, ty9, trivial⟩⟩, ty21, ⟨⟨⟨trivial, ty22, trivial⟩, ty26, trivial⟩, ty30, ⟨⟨trivial, ty36, trivial⟩, ty37, trivial⟩⟩⟩, ty40, ⟨⟨⟨⟨trivial, ty44, trivial⟩, ty45, trivial⟩, ty51, ⟨⟨trivial, ty63, trivial⟩, ty64, trivial⟩⟩, ty66, ⟨⟨⟨trivial, ty67, trivial⟩, ty69, trivial⟩, ty74, ⟨trivial, ty81, trivial⟩⟩⟩⟩
end Go.Hop

