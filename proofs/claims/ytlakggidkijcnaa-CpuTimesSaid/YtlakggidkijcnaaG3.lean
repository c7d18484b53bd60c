import Derived.Test.YtlakggidkijcnaaIrq2
import Derived.Test.YtlakggidkijcnaaLeY
set_option linter.all false
set_option linter.unusedVariables false
namespace Go.Gen.Try
open Go Go.LE
theorem mixed : Go.Proofs.Try.prog.follows .mixedOrders = true := by kernel_rfl

structure T_api_Regs where
  A : Int
  F : Int
  B : Int
  C : Int
  D : Int
  E : Int
  H : Int
  L : Int
  SP : Int
  PC : Int
deriving Inhabited
noncomputable def T_api_Regs.cells (x : T_api_Regs) : List Value := [.int .u8 x.A, .int .u8 x.F, .int .u8 x.B, .int .u8 x.C, .int .u8 x.D, .int .u8 x.E, .int .u8 x.H, .int .u8 x.L, .int .u16 x.SP, .int .u16 x.PC]
noncomputable def T_api_Regs.v (x : T_api_Regs) : Value := .agg ⟨x.cells⟩
noncomputable def T_api_Regs.eqb (a b : T_api_Regs) : Bool := ((a.A == b.A) && ((a.F == b.F) && ((a.B == b.B) && ((a.C == b.C) && ((a.D == b.D) && ((a.E == b.E) && ((a.H == b.H) && ((a.L == b.L) && ((a.SP == b.SP) && ((a.PC == b.PC) && true))))))))))
theorem T_api_Regs.eqb_iff {a b : T_api_Regs} : T_api_Regs.eqb a b = true ↔ a = b := by cases a; cases b; simp [T_api_Regs.eqb]
structure T_api_Cpu where
  R : T_api_Regs
  Ime : Bool
  Arm : Bool
  Bug : Bool
  Mode : Int
  Op : Int
  Cb : Bool
  Step : Int
  Lo : Int
  Hi : Int
deriving Inhabited
noncomputable def T_api_Cpu.cells (x : T_api_Cpu) : List Value := [.int .u8 x.R.A, .int .u8 x.R.F, .int .u8 x.R.B, .int .u8 x.R.C, .int .u8 x.R.D, .int .u8 x.R.E, .int .u8 x.R.H, .int .u8 x.R.L, .int .u16 x.R.SP, .int .u16 x.R.PC, .bool x.Ime, .bool x.Arm, .bool x.Bug, .int .u8 x.Mode, .int .u8 x.Op, .bool x.Cb, .int .u8 x.Step, .int .u8 x.Lo, .int .u8 x.Hi]
noncomputable def T_api_Cpu.v (x : T_api_Cpu) : Value := .agg ⟨x.cells⟩
noncomputable def T_api_Cpu.eqb (a b : T_api_Cpu) : Bool := (T_api_Regs.eqb a.R b.R && ((a.Ime == b.Ime) && ((a.Arm == b.Arm) && ((a.Bug == b.Bug) && ((a.Mode == b.Mode) && ((a.Op == b.Op) && ((a.Cb == b.Cb) && ((a.Step == b.Step) && ((a.Lo == b.Lo) && ((a.Hi == b.Hi) && true))))))))))
theorem T_api_Cpu.eqb_iff {a b : T_api_Cpu} : T_api_Cpu.eqb a b = true ↔ a = b := by cases a; cases b; simp [T_api_Cpu.eqb, T_api_Regs.eqb_iff]
structure T_cpu_core where
  Cpu : T_api_Cpu
deriving Inhabited
noncomputable def T_cpu_core.cells (x : T_cpu_core) : List Value := [.int .u8 x.Cpu.R.A, .int .u8 x.Cpu.R.F, .int .u8 x.Cpu.R.B, .int .u8 x.Cpu.R.C, .int .u8 x.Cpu.R.D, .int .u8 x.Cpu.R.E, .int .u8 x.Cpu.R.H, .int .u8 x.Cpu.R.L, .int .u16 x.Cpu.R.SP, .int .u16 x.Cpu.R.PC, .bool x.Cpu.Ime, .bool x.Cpu.Arm, .bool x.Cpu.Bug, .int .u8 x.Cpu.Mode, .int .u8 x.Cpu.Op, .bool x.Cpu.Cb, .int .u8 x.Cpu.Step, .int .u8 x.Cpu.Lo, .int .u8 x.Cpu.Hi]
noncomputable def T_cpu_core.v (x : T_cpu_core) : Value := .agg ⟨x.cells⟩
noncomputable def T_cpu_core.eqb (a b : T_cpu_core) : Bool := (T_api_Cpu.eqb a.Cpu b.Cpu && true)
theorem T_cpu_core.eqb_iff {a b : T_cpu_core} : T_cpu_core.eqb a b = true ↔ a = b := by cases a; cases b; simp [T_cpu_core.eqb, T_api_Cpu.eqb_iff]
structure T_api_Form where
  Kind : Int
  X : Int
  Y : Int
  Bytes : Int
  Cycles : Int
  Taken : Int
deriving Inhabited
noncomputable def T_api_Form.cells (x : T_api_Form) : List Value := [.int .i64 x.Kind, .int .i64 x.X, .int .i64 x.Y, .int .i64 x.Bytes, .int .i64 x.Cycles, .int .i64 x.Taken]
noncomputable def T_api_Form.v (x : T_api_Form) : Value := .agg ⟨x.cells⟩
noncomputable def T_api_Form.eqb (a b : T_api_Form) : Bool := ((a.Kind == b.Kind) && ((a.X == b.X) && ((a.Y == b.Y) && ((a.Bytes == b.Bytes) && ((a.Cycles == b.Cycles) && ((a.Taken == b.Taken) && true))))))
theorem T_api_Form.eqb_iff {a b : T_api_Form} : T_api_Form.eqb a b = true ↔ a = b := by cases a; cases b; simp [T_api_Form.eqb]
structure T_api_Flags where
  Z : Bool
  N : Bool
  H : Bool
  C : Bool
deriving Inhabited
noncomputable def T_api_Flags.cells (x : T_api_Flags) : List Value := [.bool x.Z, .bool x.N, .bool x.H, .bool x.C]
noncomputable def T_api_Flags.v (x : T_api_Flags) : Value := .agg ⟨x.cells⟩
noncomputable def T_api_Flags.eqb (a b : T_api_Flags) : Bool := ((a.Z == b.Z) && ((a.N == b.N) && ((a.H == b.H) && ((a.C == b.C) && true))))
theorem T_api_Flags.eqb_iff {a b : T_api_Flags} : T_api_Flags.eqb a b = true ↔ a = b := by cases a; cases b; simp [T_api_Flags.eqb]
structure T_api_Micro where
  Bus : Int
  Place : Int
  z_Value : Int
deriving Inhabited
noncomputable def T_api_Micro.cells (x : T_api_Micro) : List Value := [.int .i64 x.Bus, .int .i64 x.Place, .int .i64 x.z_Value]
noncomputable def T_api_Micro.v (x : T_api_Micro) : Value := .agg ⟨x.cells⟩
noncomputable def T_api_Micro.eqb (a b : T_api_Micro) : Bool := ((a.Bus == b.Bus) && ((a.Place == b.Place) && ((a.z_Value == b.z_Value) && true)))
theorem T_api_Micro.eqb_iff {a b : T_api_Micro} : T_api_Micro.eqb a b = true ↔ a = b := by cases a; cases b; simp [T_api_Micro.eqb]
structure T_api_Act where
  Kind : Int
  Addr : Int
  Data : Int
deriving Inhabited
noncomputable def T_api_Act.cells (x : T_api_Act) : List Value := [.int .i64 x.Kind, .int .u16 x.Addr, .int .u8 x.Data]
noncomputable def T_api_Act.v (x : T_api_Act) : Value := .agg ⟨x.cells⟩
noncomputable def T_api_Act.eqb (a b : T_api_Act) : Bool := ((a.Kind == b.Kind) && ((a.Addr == b.Addr) && ((a.Data == b.Data) && true)))
theorem T_api_Act.eqb_iff {a b : T_api_Act} : T_api_Act.eqb a b = true ↔ a = b := by cases a; cases b; simp [T_api_Act.eqb]
structure T_regs_file where
  a0 : Int
  a1 : Int
  a2 : Int
  a3 : Int
  a4 : Int
  a5 : Int
  a6 : Int
  a7 : Int
deriving Inhabited
noncomputable def T_regs_file.cells (x : T_regs_file) : List Value := [.int .u8 x.a0, .int .u8 x.a1, .int .u8 x.a2, .int .u8 x.a3, .int .u8 x.a4, .int .u8 x.a5, .int .u8 x.a6, .int .u8 x.a7]
noncomputable def T_regs_file.v (x : T_regs_file) : Value := .agg ⟨x.cells⟩
structure T_whirligiglaw22_Came where
  Data : Int
  Pending : Int
deriving Inhabited
noncomputable def T_whirligiglaw22_Came.cells (x : T_whirligiglaw22_Came) : List Value := [.int .u8 x.Data, .int .u8 x.Pending]
noncomputable def T_whirligiglaw22_Came.v (x : T_whirligiglaw22_Came) : Value := .agg ⟨x.cells⟩
noncomputable def T_whirligiglaw22_Came.eqb (a b : T_whirligiglaw22_Came) : Bool := ((a.Data == b.Data) && ((a.Pending == b.Pending) && true))
theorem T_whirligiglaw22_Came.eqb_iff {a b : T_whirligiglaw22_Came} : T_whirligiglaw22_Came.eqb a b = true ↔ a = b := by cases a; cases b; simp [T_whirligiglaw22_Came.eqb]

/-- whirligig/regs.Boot -/
abbrev X38 := Unit
abbrev Y38 := T_api_Regs
noncomputable def A38 (x : X38) : List Value := []
noncomputable def J38 (x : X38) : List (Sl × Bool) := []
noncomputable def V38 (r : Y38) : Value := (T_api_Regs.v r)
noncomputable def H38 (x : X38) (r : Y38) : List (Sl × Bool) := J38 x
noncomputable def G38 (x : X38) : Gd Go.Proofs.Try.prog Y38 :=
  (.n 3 (Gd.z [] (T_api_Regs.mk 1 176 0 19 0 216 1 77 65534 256)))
theorem K38 (x : X38) : evF Go.Proofs.Try.prog 38 (A38 x) ((J38 x).map (·.1)) (G38 x) = (G38 x).exp fun y => (V38 y, (H38 x y).map (·.1)) := by kernel_rfl
noncomputable def f38 (x : X38) : Y38 := (G38 x).val (T_api_Regs.mk 0 0 0 0 0 0 0 0 0 0)
theorem T38 (x : X38) : (G38 x).tot = true := by kernel_rfl
@[reducible] noncomputable def c38 : ConT Go.Proofs.Try.prog := ConT.of mixed 38 true A38 J38 V38 H38 G38 (T_api_Regs.mk 0 0 0 0 0 0 0 0 0 0) f38 (fun _ => rfl) T38 K38 (fun _ => all_is (by kernel_rfl)) (fun _ _ => all_is (by kernel_rfl))
/-- whirligig/cpu.Boot -/
abbrev X19 := Unit
abbrev Y19 := T_api_Cpu
noncomputable def A19 (x : X19) : List Value := []
noncomputable def J19 (x : X19) : List (Sl × Bool) := []
noncomputable def V19 (r : Y19) : Value := (T_api_Cpu.v r)
noncomputable def H19 (x : X19) (r : Y19) : List (Sl × Bool) := J19 x
noncomputable def G19 (x : X19) : Gd Go.Proofs.Try.prog Y19 :=
  (.n 1 (.t [] c38 () fun (r1 : Y38) => (.n 2 (Gd.z [] (T_api_Cpu.mk r1 false false false 0 0 false 0 0 0)))))
theorem K19 (x : X19) : evF Go.Proofs.Try.prog 19 (A19 x) ((J19 x).map (·.1)) (G19 x) = (G19 x).exp fun y => (V19 y, (H19 x y).map (·.1)) := by kernel_rfl
noncomputable def f19 (x : X19) : Y19 := (G19 x).val (T_api_Cpu.mk (T_api_Regs.mk 0 0 0 0 0 0 0 0 0 0) false false false 0 0 false 0 0 0)
theorem T19 (x : X19) : (G19 x).tot = true := by kernel_rfl
@[reducible] noncomputable def c19 : ConT Go.Proofs.Try.prog := ConT.of mixed 19 true A19 J19 V19 H19 G19 (T_api_Cpu.mk (T_api_Regs.mk 0 0 0 0 0 0 0 0 0 0) false false false 0 0 false 0 0 0) f19 (fun _ => rfl) T19 K19 (fun _ => all_is (by kernel_rfl)) (fun _ _ => all_is (by kernel_rfl))
/-- (*whirligig/cpu.core).waits -/
abbrev X27 := T_cpu_core
abbrev Y27 := Bool
noncomputable def A27 (x : X27) : List Value := [(.pointer (some ⟨0, 0, none⟩))]
noncomputable def J27 (x : X27) : List (Sl × Bool) := [nf (.live ⟨(T_cpu_core.cells x), true, none⟩)]
noncomputable def V27 (r : Y27) : Value := (.bool r)
noncomputable def H27 (x : X27) (r : Y27) : List (Sl × Bool) := J27 x
noncomputable def G27 (x : X27) : Gd Go.Proofs.Try.prog Y27 :=
  (.n 7 (.s (x.Cpu.Mode == 1) (.n 4 (Gd.z [(0, false)] true)) (.n 7 (.s (x.Cpu.Mode == 2) (.n 2 (Gd.z [(0, false)] true)) (.n 8 (Gd.z [(0, false)] (x.Cpu.Mode == 3)))))))
theorem K27 (x : X27) : evF Go.Proofs.Try.prog 27 (A27 x) ((J27 x).map (·.1)) (G27 x) = (G27 x).exp fun y => (V27 y, (H27 x y).map (·.1)) := by kernel_rfl
noncomputable def f27 (x : X27) : Y27 := (G27 x).val false
theorem T27 (x : X27) : (G27 x).tot = true := by kernel_rfl
@[reducible] noncomputable def c27 : ConT Go.Proofs.Try.prog := ConT.of mixed 27 true A27 J27 V27 H27 G27 false f27 (fun _ => rfl) T27 K27 (fun _ => all_is (by kernel_rfl)) (fun _ _ => all_is (by kernel_rfl))
/-- (*whirligig/cpu.core).second -/
abbrev X40 := T_cpu_core
abbrev Y40 := Bool
noncomputable def A40 (x : X40) : List Value := [(.pointer (some ⟨0, 0, none⟩))]
noncomputable def J40 (x : X40) : List (Sl × Bool) := [nf (.live ⟨(T_cpu_core.cells x), true, none⟩)]
noncomputable def V40 (r : Y40) : Value := (.bool r)
noncomputable def H40 (x : X40) (r : Y40) : List (Sl × Bool) := J40 x
noncomputable def G40 (x : X40) : Gd Go.Proofs.Try.prog Y40 :=
  (.n 7 (.s (x.Cpu.Op == 203) (.n 8 (Gd.z [(0, false)] (!x.Cpu.Cb))) (.n 2 (Gd.z [(0, false)] false))))
theorem K40 (x : X40) : evF Go.Proofs.Try.prog 40 (A40 x) ((J40 x).map (·.1)) (G40 x) = (G40 x).exp fun y => (V40 y, (H40 x y).map (·.1)) := by kernel_rfl
noncomputable def f40 (x : X40) : Y40 := (G40 x).val false
theorem T40 (x : X40) : (G40 x).tot = true := by kernel_rfl
@[reducible] noncomputable def c40 : ConT Go.Proofs.Try.prog := ConT.of mixed 40 true A40 J40 V40 H40 G40 false f40 (fun _ => rfl) T40 K40 (fun _ => all_is (by kernel_rfl)) (fun _ _ => all_is (by kernel_rfl))
/-- whirligig/opcode.if6 -/
abbrev X34 := Int × Int × Int
abbrev Y34 := Int
noncomputable def A34 (x : X34) : List Value := [(.int .i64 x.1), (.int .i64 x.2.1), (.int .i64 x.2.2)]
noncomputable def J34 (x : X34) : List (Sl × Bool) := []
noncomputable def V34 (r : Y34) : Value := (.int .i64 r)
noncomputable def H34 (x : X34) (r : Y34) : List (Sl × Bool) := J34 x
noncomputable def G34 (x : X34) : Gd Go.Proofs.Try.prog Y34 :=
  (.n 2 (.s (x.1 == 6) (.n 2 (Gd.z [] x.2.1)) (.n 2 (Gd.z [] x.2.2))))
theorem K34 (x : X34) : evF Go.Proofs.Try.prog 34 (A34 x) ((J34 x).map (·.1)) (G34 x) = (G34 x).exp fun y => (V34 y, (H34 x y).map (·.1)) := by kernel_rfl
noncomputable def f34 (x : X34) : Y34 := (G34 x).val 0
theorem T34 (x : X34) : (G34 x).tot = true := by kernel_rfl
@[reducible] noncomputable def c34 : ConT Go.Proofs.Try.prog := ConT.of mixed 34 true A34 J34 V34 H34 G34 0 f34 (fun _ => rfl) T34 K34 (fun _ => all_is (by kernel_rfl)) (fun _ _ => all_is (by kernel_rfl))
/-- whirligig/opcode.form -/
abbrev X33 := Int × Int × Int × Int × Int
abbrev Y33 := T_api_Form
noncomputable def A33 (x : X33) : List Value := [(.int .i64 x.1), (.int .i64 x.2.1), (.int .i64 x.2.2.1), (.int .i64 x.2.2.2.1), (.int .i64 x.2.2.2.2)]
noncomputable def J33 (x : X33) : List (Sl × Bool) := []
noncomputable def V33 (r : Y33) : Value := (T_api_Form.v r)
noncomputable def H33 (x : X33) (r : Y33) : List (Sl × Bool) := J33 x
noncomputable def G33 (x : X33) : Gd Go.Proofs.Try.prog Y33 :=
  (.n 9 (Gd.z [] (T_api_Form.mk x.1 x.2.1 x.2.2.1 x.2.2.2.1 x.2.2.2.2 x.2.2.2.2)))
theorem K33 (x : X33) : evF Go.Proofs.Try.prog 33 (A33 x) ((J33 x).map (·.1)) (G33 x) = (G33 x).exp fun y => (V33 y, (H33 x y).map (·.1)) := by kernel_rfl
noncomputable def f33 (x : X33) : Y33 := (G33 x).val (T_api_Form.mk 0 0 0 0 0 0)
theorem T33 (x : X33) : (G33 x).tot = true := by kernel_rfl
@[reducible] noncomputable def c33 : ConT Go.Proofs.Try.prog := ConT.of mixed 33 true A33 J33 V33 H33 G33 (T_api_Form.mk 0 0 0 0 0 0) f33 (fun _ => rfl) T33 K33 (fun _ => all_is (by kernel_rfl)) (fun _ _ => all_is (by kernel_rfl))
/-- whirligig/opcode.DecodeCB -/
abbrev X16 := Int
abbrev Y16 := T_api_Form
noncomputable def A16 (x : X16) : List Value := [(.int .u8 x)]
noncomputable def J16 (x : X16) : List (Sl × Bool) := []
noncomputable def V16 (r : Y16) : Value := (T_api_Form.v r)
noncomputable def H16 (x : X16) (r : Y16) : List (Sl × Bool) := J16 x
noncomputable def G16 (x : X16) : Gd Go.Proofs.Try.prog Y16 :=
  (.n 13 (Gd.ix 3 .i64 ([43, 44, 45, 46] : List Int) (Int.fdiv x (2 ^ 6)) (by kernel_rfl) (.n 2 (.t [] c34 ((IntKind.wrap .i64 (bits .and .u8 x 7)), 4, 2) fun (r16 : Y34) => (.n 2 (.s ((List.getD ([43, 44, 45, 46] : List Int) (Int.toNat (Int.fdiv x (2 ^ 6))) 0) == 44) (.n 1 (.t [] c34 ((IntKind.wrap .i64 (bits .and .u8 x 7)), 3, 2) fun (r21 : Y34) => (.n 5 (.t [] c33 (((List.getD ([43, 44, 45, 46] : List Int) (Int.toNat (Int.fdiv x (2 ^ 6))) 0), (IntKind.wrap .i64 (bits .and .u8 (Int.fdiv x (2 ^ 3)) 7)), (IntKind.wrap .i64 (bits .and .u8 x 7)), 2, r21) : X33) fun (r27 : Y33) => (.n 1 (Gd.z [] r27)))))) (.n 4 (.t [] c33 (((List.getD ([43, 44, 45, 46] : List Int) (Int.toNat (Int.fdiv x (2 ^ 6))) 0), (IntKind.wrap .i64 (bits .and .u8 (Int.fdiv x (2 ^ 3)) 7)), (IntKind.wrap .i64 (bits .and .u8 x 7)), 2, r16) : X33) fun (r24 : Y33) => (.n 1 (Gd.z [] r24))))))))))
theorem K16 (x : X16) : evF Go.Proofs.Try.prog 16 (A16 x) ((J16 x).map (·.1)) (G16 x) = (G16 x).exp fun y => (V16 y, (H16 x y).map (·.1)) := by kernel_rfl
noncomputable def F16 (x : X16) : Option Y16 := (G16 x).run
@[reducible] noncomputable def c16 : Con Go.Proofs.Try.prog := Con.of mixed 16 true A16 J16 V16 H16 G16 F16 (fun _ => rfl) K16 (fun _ => all_is (by kernel_rfl)) (fun _ _ => all_is (by kernel_rfl))
/-- whirligig/opcode.on -/
abbrev X54 := Int × Int × Int × Int × Int
abbrev Y54 := T_api_Form
noncomputable def A54 (x : X54) : List Value := [(.int .i64 x.1), (.int .i64 x.2.1), (.int .i64 x.2.2.1), (.int .i64 x.2.2.2.1), (.int .i64 x.2.2.2.2)]
noncomputable def J54 (x : X54) : List (Sl × Bool) := []
noncomputable def V54 (r : Y54) : Value := (T_api_Form.v r)
noncomputable def H54 (x : X54) (r : Y54) : List (Sl × Bool) := J54 x
noncomputable def G54 (x : X54) : Gd Go.Proofs.Try.prog Y54 :=
  (.n 8 (Gd.z [] (T_api_Form.mk x.1 x.2.1 0 x.2.2.1 x.2.2.2.1 x.2.2.2.2)))
theorem K54 (x : X54) : evF Go.Proofs.Try.prog 54 (A54 x) ((J54 x).map (·.1)) (G54 x) = (G54 x).exp fun y => (V54 y, (H54 x y).map (·.1)) := by kernel_rfl
noncomputable def f54 (x : X54) : Y54 := (G54 x).val (T_api_Form.mk 0 0 0 0 0 0)
theorem T54 (x : X54) : (G54 x).tot = true := by kernel_rfl
@[reducible] noncomputable def c54 : ConT Go.Proofs.Try.prog := ConT.of mixed 54 true A54 J54 V54 H54 G54 (T_api_Form.mk 0 0 0 0 0 0) f54 (fun _ => rfl) T54 K54 (fun _ => all_is (by kernel_rfl)) (fun _ _ => all_is (by kernel_rfl))
/-- whirligig/opcode.mixed$1 -/
abbrev X53 := Int × Int × Int × Int × Bool × Int
abbrev Y53 := T_api_Form
noncomputable def A53 (x : X53) : List Value := [(.int .i64 x.1), (.int .i64 x.2.1), (.int .i64 x.2.2.1), (.int .i64 x.2.2.2.1), (.pointer (some ⟨0, 0, none⟩)), (.pointer (some ⟨1, 0, none⟩))]
noncomputable def J53 (x : X53) : List (Sl × Bool) := [nf (.live ⟨[.bool x.2.2.2.2.1], true, none⟩), nf (.live ⟨[.int .i64 x.2.2.2.2.2], true, none⟩)]
noncomputable def V53 (r : Y53) : Value := (T_api_Form.v r)
noncomputable def H53 (x : X53) (r : Y53) : List (Sl × Bool) := J53 x
noncomputable def G53 (x : X53) : Gd Go.Proofs.Try.prog Y53 :=
  (.n 1 (.s x.2.2.2.2.1 (.n 2 (.t [] c33 (x.2.1, x.2.2.2.2.2, 0, 1, 2) fun (r4 : Y33) => (.n 1 (Gd.z [(0, false), (1, false)] r4)))) (.n 4 (.t [] c33 (x.1, x.2.2.2.2.2, 0, x.2.2.1, x.2.2.2.1) fun (r6 : Y33) => (.n 1 (Gd.z [(0, false), (1, false)] r6))))))
theorem K53 (x : X53) : evF Go.Proofs.Try.prog 53 (A53 x) ((J53 x).map (·.1)) (G53 x) = (G53 x).exp fun y => (V53 y, (H53 x y).map (·.1)) := by kernel_rfl
noncomputable def f53 (x : X53) : Y53 := (G53 x).val (T_api_Form.mk 0 0 0 0 0 0)
theorem T53 (x : X53) : (G53 x).tot = true := by kernel_rfl
@[reducible] noncomputable def c53 : ConT Go.Proofs.Try.prog := ConT.of mixed 53 true A53 J53 V53 H53 G53 (T_api_Form.mk 0 0 0 0 0 0) f53 (fun _ => rfl) T53 K53 (fun _ => all_is (by kernel_rfl)) (fun _ _ => all_is (by kernel_rfl))
/-- whirligig/opcode.mixed -/
abbrev X32 := Int × Int
abbrev Y32 := T_api_Form
noncomputable def A32 (x : X32) : List Value := [(.int .i64 x.1), (.int .i64 x.2)]
noncomputable def J32 (x : X32) : List (Sl × Bool) := []
noncomputable def V32 (r : Y32) : Value := (T_api_Form.v r)
noncomputable def H32 (x : X32) (r : Y32) : List (Sl × Bool) := J32 x
noncomputable def G32 (x : X32) : Gd Go.Proofs.Try.prog Y32 :=
  (.n 14 (.s (x.2 == 0) (.n 1 (.s (decide (x.1 > 3)) (.n 2 (.t [] c54 (36, (IntKind.wrap .i64 (x.1 - 4)), 2, 2, 3) fun (r19 : Y54) => (.n 1 (Gd.z [] r19)))) (.t [] c33 (0, 0, 0, 1, 1) fun (r17 : Y33) => (.t [] c33 (18, 0, 0, 3, 5) fun (r18 : Y33) => (.t [] c33 (1, 0, 0, 2, 2) fun (r19 : Y33) => (.t [] c33 (36, 4, 0, 2, 3) fun (r20 : Y33) => (.n 1 (.i (x.1 == 0) 0 (.n 2 (Gd.z [] r17)) (.i (x.1 == 1) 1 (.n 2 (Gd.z [] r18)) (.i (x.1 == 2) 2 (.n 2 (Gd.z [] r19)) (.i (x.1 == 3) 3 (.n 2 (Gd.z [] r20)) .f))))))))))) (.n 1 (.s (x.2 == 1) (.n 1 (.t [(2, false), (1, false)] c53 (17, 29, 3, 3, ((Int.tmod x.1 2) == 1), (IntKind.wrap .i64 (Int.tdiv x.1 2))) fun (r18 : Y53) => (.n 1 (Gd.z [] r18)))) (.n 1 (.s (x.2 == 2) (.n 1 (.t [(2, false), (1, false)] c53 (10, 9, 1, 2, ((Int.tmod x.1 2) == 1), (IntKind.wrap .i64 (Int.tdiv x.1 2))) fun (r20 : Y53) => (.n 1 (Gd.z [] r20)))) (.n 1 (.s (x.2 == 3) (.n 1 (.t [(2, false), (1, false)] c53 (27, 28, 1, 2, ((Int.tmod x.1 2) == 1), (IntKind.wrap .i64 (Int.tdiv x.1 2))) fun (r22 : Y53) => (.n 1 (Gd.z [] r22)))) (.n 1 (.s (x.2 == 4) (.n 2 (.t [] c34 (x.1, 3, 1) fun (r25 : Y34) => (.t [] c33 (25, x.1, 0, 1, r25) fun (r26 : Y33) => (.n 1 (Gd.z [] r26))))) (.n 1 (.s (x.2 == 5) (.n 2 (.t [] c34 (x.1, 3, 1) fun (r27 : Y34) => (.t [] c33 (26, x.1, 0, 1, r27) fun (r28 : Y33) => (.n 1 (Gd.z [] r28))))) (.n 1 (.s (x.2 == 6) (.n 2 (.t [] c34 (x.1, 3, 2) fun (r29 : Y34) => (.t [] c33 (8, x.1, 0, 2, r29) fun (r30 : Y33) => (.n 1 (Gd.z [] r30))))) (.n 1 (.s (decide (x.1 < 4)) (.n 1 (.t [] c33 (31, x.1, 0, 1, 1) fun (r30 : Y33) => (.n 1 (Gd.z [] r30)))) (.n 3 (.t [] c33 ((IntKind.wrap .i64 ((IntKind.wrap .i64 (32 + x.1)) - 4)), 0, 0, 1, 1) fun (r32 : Y33) => (.n 1 (Gd.z [] r32))))))))))))))))))))
theorem K32 (x : X32) : evF Go.Proofs.Try.prog 32 (A32 x) ((J32 x).map (·.1)) (G32 x) = (G32 x).exp fun y => (V32 y, (H32 x y).map (·.1)) := by kernel_rfl
noncomputable def F32 (x : X32) : Option Y32 := (G32 x).run
@[reducible] noncomputable def c32 : Con Go.Proofs.Try.prog := Con.of mixed 32 true A32 J32 V32 H32 G32 F32 (fun _ => rfl) K32 (fun _ => all_is (by kernel_rfl)) (fun _ _ => all_is (by kernel_rfl))
/-- whirligig/opcode.stack -/
abbrev X55 := Int
abbrev Y55 := Int
noncomputable def A55 (x : X55) : List Value := [(.int .i64 x)]
noncomputable def J55 (x : X55) : List (Sl × Bool) := []
noncomputable def V55 (r : Y55) : Value := (.int .i64 r)
noncomputable def H55 (x : X55) (r : Y55) : List (Sl × Bool) := J55 x
noncomputable def G55 (x : X55) : Gd Go.Proofs.Try.prog Y55 :=
  (.n 2 (.s (x == 3) (.n 1 (Gd.z [] 4)) (.n 2 (Gd.z [] x))))
theorem K55 (x : X55) : evF Go.Proofs.Try.prog 55 (A55 x) ((J55 x).map (·.1)) (G55 x) = (G55 x).exp fun y => (V55 y, (H55 x y).map (·.1)) := by kernel_rfl
noncomputable def f55 (x : X55) : Y55 := (G55 x).val 0
theorem T55 (x : X55) : (G55 x).tot = true := by kernel_rfl
@[reducible] noncomputable def c55 : ConT Go.Proofs.Try.prog := ConT.of mixed 55 true A55 J55 V55 H55 G55 0 f55 (fun _ => rfl) T55 K55 (fun _ => all_is (by kernel_rfl)) (fun _ _ => all_is (by kernel_rfl))
/-- whirligig/opcode.last -/
abbrev X35 := Int × Int
abbrev Y35 := T_api_Form
noncomputable def A35 (x : X35) : List Value := [(.int .i64 x.1), (.int .i64 x.2)]
noncomputable def J35 (x : X35) : List (Sl × Bool) := []
noncomputable def V35 (r : Y35) : Value := (T_api_Form.v r)
noncomputable def H35 (x : X35) (r : Y35) : List (Sl × Bool) := J35 x
noncomputable def G35 (x : X35) : Gd Go.Proofs.Try.prog Y35 :=
  (.n 4 (.t [] c33 (5, 0, 0, 1, 1) fun (r4 : Y33) => (.n 4 (.s (x.2 == 0) (.n 1 (.s (decide (x.1 < 4)) (.n 1 (.t [] c54 (40, x.1, 1, 2, 5) fun (r13 : Y54) => (.n 1 (Gd.z [] r13)))) (.t [] c33 (12, 0, 0, 2, 3) fun (r12 : Y33) => (.t [] c33 (30, 0, 0, 2, 4) fun (r13 : Y33) => (.t [] c33 (11, 0, 0, 2, 3) fun (r14 : Y33) => (.t [] c33 (20, 0, 0, 2, 3) fun (r15 : Y33) => (.n 2 (.i ((IntKind.wrap .i64 (x.1 - 4)) == 0) 0 (.n 2 (Gd.z [] r12)) (.i ((IntKind.wrap .i64 (x.1 - 4)) == 1) 1 (.n 2 (Gd.z [] r13)) (.i ((IntKind.wrap .i64 (x.1 - 4)) == 2) 2 (.n 2 (Gd.z [] r14)) (.i ((IntKind.wrap .i64 (x.1 - 4)) == 3) 3 (.n 2 (Gd.z [] r15)) .f))))))))))) (.n 1 (.s (x.2 == 1) (.n 2 (.s ((Int.tmod x.1 2) == 0) (.n 1 (.t [] c55 (IntKind.wrap .i64 (Int.tdiv x.1 2)) fun (r16 : Y55) => (.t [] c33 (22, r16, 0, 1, 3) fun (r17 : Y33) => (.n 1 (Gd.z [] r17))))) (.t [] c33 (40, 4, 0, 1, 4) fun (r15 : Y33) => (.t [] c33 (41, 0, 0, 1, 4) fun (r16 : Y33) => (.t [] c33 (38, 0, 0, 1, 1) fun (r17 : Y33) => (.t [] c33 (19, 0, 0, 1, 2) fun (r18 : Y33) => (.n 1 (.i ((IntKind.wrap .i64 (Int.tdiv x.1 2)) == 0) 0 (.n 2 (Gd.z [] r15)) (.i ((IntKind.wrap .i64 (Int.tdiv x.1 2)) == 1) 1 (.n 2 (Gd.z [] r16)) (.i ((IntKind.wrap .i64 (Int.tdiv x.1 2)) == 2) 2 (.n 2 (Gd.z [] r17)) (.i ((IntKind.wrap .i64 (Int.tdiv x.1 2)) == 3) 3 (.n 2 (Gd.z [] r18)) .f))))))))))) (.n 1 (.s (x.2 == 2) (.n 1 (.s (decide (x.1 < 4)) (.n 1 (.t [] c54 (37, x.1, 3, 3, 4) fun (r17 : Y54) => (.n 1 (Gd.z [] r17)))) (.t [] c33 (14, 0, 0, 1, 2) fun (r16 : Y33) => (.t [] c33 (16, 0, 0, 3, 4) fun (r17 : Y33) => (.t [] c33 (13, 0, 0, 1, 2) fun (r18 : Y33) => (.t [] c33 (15, 0, 0, 3, 4) fun (r19 : Y33) => (.n 2 (.i ((IntKind.wrap .i64 (x.1 - 4)) == 0) 0 (.n 2 (Gd.z [] r16)) (.i ((IntKind.wrap .i64 (x.1 - 4)) == 1) 1 (.n 2 (Gd.z [] r17)) (.i ((IntKind.wrap .i64 (x.1 - 4)) == 2) 2 (.n 2 (Gd.z [] r18)) (.i ((IntKind.wrap .i64 (x.1 - 4)) == 3) 3 (.n 2 (Gd.z [] r19)) .f))))))))))) (.n 1 (.s (x.2 == 3) (.t [] c33 (37, 4, 0, 3, 4) fun (r16 : Y33) => (.t [] c33 (6, 0, 0, 1, 1) fun (r17 : Y33) => (.n 4 (.t [] c33 (3, 0, 0, 1, 1) fun (r22 : Y33) => (.t [] c33 (4, 0, 0, 1, 1) fun (r23 : Y33) => (.n 1 (.i (x.1 == 0) 0 (.n 2 (Gd.z [] r16)) (.i (x.1 == 1) 1 (.n 2 (Gd.z [] r17)) (.i (x.1 == 2) 2 (.n 2 (Gd.z [] r4)) (.i (x.1 == 3) 3 (.n 2 (Gd.z [] r4)) (.i (x.1 == 4) 4 (.n 2 (Gd.z [] r4)) (.i (x.1 == 5) 5 (.n 2 (Gd.z [] r4)) (.i (x.1 == 6) 6 (.n 2 (Gd.z [] r22)) (.i (x.1 == 7) 7 (.n 2 (Gd.z [] r23)) .f)))))))))))))) (.n 1 (.s (x.2 == 4) (.n 1 (.s (decide (x.1 < 4)) (.n 1 (.t [] c54 (39, x.1, 3, 3, 6) fun (r21 : Y54) => (.n 1 (Gd.z [] r21)))) (.n 2 (Gd.z [] r4)))) (.n 1 (.s (x.2 == 5) (.n 3 (.s ((Int.tmod x.1 2) == 0) (.n 1 (.t [] c55 (IntKind.wrap .i64 (Int.tdiv x.1 2)) fun (r25 : Y55) => (.t [] c33 (21, r25, 0, 1, 4) fun (r26 : Y33) => (.n 1 (Gd.z [] r26))))) (.n 2 (.s (x.1 == 1) (.t [] c33 (39, 4, 0, 3, 6) fun (r27 : Y33) => (.n 1 (Gd.z [] r27))) (.n 2 (Gd.z [] r4)))))) (.n 1 (.s (x.2 == 6) (.n 1 (.t [] c33 (24, x.1, 0, 2, 2) fun (r23 : Y33) => (.n 1 (Gd.z [] r23)))) (.n 1 (.t [] c33 (42, x.1, 0, 1, 4) fun (r23 : Y33) => (.n 1 (Gd.z [] r23))))))))))))))))))))
theorem K35 (x : X35) : evF Go.Proofs.Try.prog 35 (A35 x) ((J35 x).map (·.1)) (G35 x) = (G35 x).exp fun y => (V35 y, (H35 x y).map (·.1)) := by kernel_rfl
noncomputable def F35 (x : X35) : Option Y35 := (G35 x).run
@[reducible] noncomputable def c35 : Con Go.Proofs.Try.prog := Con.of mixed 35 true A35 J35 V35 H35 G35 F35 (fun _ => rfl) K35 (fun _ => all_is (by kernel_rfl)) (fun _ _ => all_is (by kernel_rfl))
/-- whirligig/opcode.Decode -/
abbrev X15 := Int
abbrev Y15 := T_api_Form
noncomputable def A15 (x : X15) : List Value := [(.int .u8 x)]
noncomputable def J15 (x : X15) : List (Sl × Bool) := []
noncomputable def V15 (r : Y15) : Value := (T_api_Form.v r)
noncomputable def H15 (x : X15) (r : Y15) : List (Sl × Bool) := J15 x
noncomputable def G15 (x : X15) : Gd Go.Proofs.Try.prog Y15 :=
  (.n 13 (.s ((Int.fdiv x (2 ^ 6)) == 0) (.n 2 (.k [] c32 ((IntKind.wrap .i64 (bits .and .u8 (Int.fdiv x (2 ^ 3)) 7)), (IntKind.wrap .i64 (bits .and .u8 x 7))) fun (r16 : Y32) => (.n 1 (Gd.z [] r16)))) (.n 1 (.s ((Int.fdiv x (2 ^ 6)) == 1) (.n 2 (.s ((IntKind.wrap .i64 (bits .and .u8 (Int.fdiv x (2 ^ 3)) 7)) == 6) (.n 2 (.s ((IntKind.wrap .i64 (bits .and .u8 x 7)) == 6) (.t [] c33 (2, 0, 0, 1, 1) fun (r22 : Y33) => (.n 1 (Gd.z [] r22))) (.n 3 (.t [] c34 ((IntKind.wrap .i64 (bits .and .u8 (Int.fdiv x (2 ^ 3)) 7)), 2, 1) fun (r25 : Y34) => (.n 1 (.t [] c34 ((IntKind.wrap .i64 (bits .and .u8 x 7)), 2, 1) fun (r27 : Y34) => (.n 1 (.t [] c33 (7, (IntKind.wrap .i64 (bits .and .u8 (Int.fdiv x (2 ^ 3)) 7)), (IntKind.wrap .i64 (bits .and .u8 x 7)), 1, (if r27 > r25 then r27 else r25)) fun (r29 : Y33) => (.n 1 (Gd.z [] r29)))))))))) (.n 4 (.t [] c34 ((IntKind.wrap .i64 (bits .and .u8 (Int.fdiv x (2 ^ 3)) 7)), 2, 1) fun (r23 : Y34) => (.n 1 (.t [] c34 ((IntKind.wrap .i64 (bits .and .u8 x 7)), 2, 1) fun (r25 : Y34) => (.n 1 (.t [] c33 (7, (IntKind.wrap .i64 (bits .and .u8 (Int.fdiv x (2 ^ 3)) 7)), (IntKind.wrap .i64 (bits .and .u8 x 7)), 1, (if r25 > r23 then r25 else r23)) fun (r27 : Y33) => (.n 1 (Gd.z [] r27)))))))))) (.n 1 (.s ((Int.fdiv x (2 ^ 6)) == 2) (.n 3 (.t [] c34 ((IntKind.wrap .i64 (bits .and .u8 x 7)), 2, 1) fun (r21 : Y34) => (.t [] c33 (23, (IntKind.wrap .i64 (bits .and .u8 (Int.fdiv x (2 ^ 3)) 7)), (IntKind.wrap .i64 (bits .and .u8 x 7)), 1, r21) fun (r22 : Y33) => (.n 1 (Gd.z [] r22))))) (.n 2 (.k [] c35 ((IntKind.wrap .i64 (bits .and .u8 (Int.fdiv x (2 ^ 3)) 7)), (IntKind.wrap .i64 (bits .and .u8 x 7))) fun (r20 : Y35) => (.n 1 (Gd.z [] r20))))))))))
theorem K15 (x : X15) : evF Go.Proofs.Try.prog 15 (A15 x) ((J15 x).map (·.1)) (G15 x) = (G15 x).exp fun y => (V15 y, (H15 x y).map (·.1)) := by kernel_rfl
noncomputable def F15 (x : X15) : Option Y15 := (G15 x).run
@[reducible] noncomputable def c15 : Con Go.Proofs.Try.prog := Con.of mixed 15 true A15 J15 V15 H15 G15 F15 (fun _ => rfl) K15 (fun _ => all_is (by kernel_rfl)) (fun _ _ => all_is (by kernel_rfl))
/-- (*whirligig/cpu.core).form -/
abbrev X45 := T_cpu_core
abbrev Y45 := T_api_Form
noncomputable def A45 (x : X45) : List Value := [(.pointer (some ⟨0, 0, none⟩))]
noncomputable def J45 (x : X45) : List (Sl × Bool) := [nf (.live ⟨(T_cpu_core.cells x), true, none⟩)]
noncomputable def V45 (r : Y45) : Value := (T_api_Form.v r)
noncomputable def H45 (x : X45) (r : Y45) : List (Sl × Bool) := J45 x
noncomputable def G45 (x : X45) : Gd Go.Proofs.Try.prog Y45 :=
  (.n 5 (.s x.Cpu.Cb (.n 5 (.k [] c16 x.Cpu.Op fun (r11 : Y16) => (.n 1 (Gd.z [(0, false)] r11)))) (.n 5 (.k [] c15 x.Cpu.Op fun (r11 : Y15) => (.n 1 (Gd.z [(0, false)] r11))))))
theorem K45 (x : X45) : evF Go.Proofs.Try.prog 45 (A45 x) ((J45 x).map (·.1)) (G45 x) = (G45 x).exp fun y => (V45 y, (H45 x y).map (·.1)) := by kernel_rfl
noncomputable def F45 (x : X45) : Option Y45 := (G45 x).run
@[reducible] noncomputable def c45 : Con Go.Proofs.Try.prog := Con.of mixed 45 true A45 J45 V45 H45 G45 F45 (fun _ => rfl) K45 (fun _ => all_is (by kernel_rfl)) (fun _ _ => all_is (by kernel_rfl))
/-- whirligig/alu.Of -/
abbrev X56 := Int
abbrev Y56 := T_api_Flags
noncomputable def A56 (x : X56) : List Value := [(.int .u8 x)]
noncomputable def J56 (x : X56) : List (Sl × Bool) := []
noncomputable def V56 (r : Y56) : Value := (T_api_Flags.v r)
noncomputable def H56 (x : X56) (r : Y56) : List (Sl × Bool) := J56 x
noncomputable def G56 (x : X56) : Gd Go.Proofs.Try.prog Y56 :=
  (.n 15 (Gd.z [] (T_api_Flags.mk ((bits .and .u8 x 128) != 0) ((bits .and .u8 x 64) != 0) ((bits .and .u8 x 32) != 0) ((bits .and .u8 x 16) != 0))))
theorem K56 (x : X56) : evF Go.Proofs.Try.prog 56 (A56 x) ((J56 x).map (·.1)) (G56 x) = (G56 x).exp fun y => (V56 y, (H56 x y).map (·.1)) := by kernel_rfl
noncomputable def f56 (x : X56) : Y56 := (G56 x).val (T_api_Flags.mk false false false false)
theorem T56 (x : X56) : (G56 x).tot = true := by kernel_rfl
@[reducible] noncomputable def c56 : ConT Go.Proofs.Try.prog := ConT.of mixed 56 true A56 J56 V56 H56 G56 (T_api_Flags.mk false false false false) f56 (fun _ => rfl) T56 K56 (fun _ => all_is (by kernel_rfl)) (fun _ _ => all_is (by kernel_rfl))
/-- whirligig/regs.Flags -/
abbrev X37 := T_api_Regs
abbrev Y37 := T_api_Flags
noncomputable def A37 (x : X37) : List Value := [(T_api_Regs.v x)]
noncomputable def J37 (x : X37) : List (Sl × Bool) := []
noncomputable def V37 (r : Y37) : Value := (T_api_Flags.v r)
noncomputable def H37 (x : X37) (r : Y37) : List (Sl × Bool) := J37 x
noncomputable def G37 (x : X37) : Gd Go.Proofs.Try.prog Y37 :=
  (.n 4 (.t [] c56 x.F fun (r4 : Y56) => (.n 1 (Gd.z [] r4))))
theorem K37 (x : X37) : evF Go.Proofs.Try.prog 37 (A37 x) ((J37 x).map (·.1)) (G37 x) = (G37 x).exp fun y => (V37 y, (H37 x y).map (·.1)) := by kernel_rfl
noncomputable def f37 (x : X37) : Y37 := (G37 x).val (T_api_Flags.mk false false false false)
theorem T37 (x : X37) : (G37 x).tot = true := by kernel_rfl
@[reducible] noncomputable def c37 : ConT Go.Proofs.Try.prog := ConT.of mixed 37 true A37 J37 V37 H37 G37 (T_api_Flags.mk false false false false) f37 (fun _ => rfl) T37 K37 (fun _ => all_is (by kernel_rfl)) (fun _ _ => all_is (by kernel_rfl))
/-- whirligig/regs.Holds -/
abbrev X18 := T_api_Regs × Int
abbrev Y18 := Bool
noncomputable def A18 (x : X18) : List Value := [(T_api_Regs.v x.1), (.int .i64 x.2)]
noncomputable def J18 (x : X18) : List (Sl × Bool) := []
noncomputable def V18 (r : Y18) : Value := (.bool r)
noncomputable def H18 (x : X18) (r : Y18) : List (Sl × Bool) := J18 x
noncomputable def G18 (x : X18) : Gd Go.Proofs.Try.prog Y18 :=
  (.n 3 (.t [] c37 x.1 fun (r3 : Y37) => (.n 4 (.s (x.2 == 0) (.n 6 (Gd.z [] (r3.Z == (x.2 == 1)))) (.n 1 (.s (x.2 == 1) (.n 6 (Gd.z [] (r3.Z == (x.2 == 1)))) (.n 1 (.s (x.2 == 2) (.n 6 (Gd.z [] (r3.C == (x.2 == 3)))) (.n 1 (.s (x.2 == 3) (.n 6 (Gd.z [] (r3.C == (x.2 == 3)))) (.n 3 (Gd.z [] (x.2 == 4)))))))))))))
theorem K18 (x : X18) : evF Go.Proofs.Try.prog 18 (A18 x) ((J18 x).map (·.1)) (G18 x) = (G18 x).exp fun y => (V18 y, (H18 x y).map (·.1)) := by kernel_rfl
noncomputable def f18 (x : X18) : Y18 := (G18 x).val false
theorem T18 (x : X18) : (G18 x).tot = true := by kernel_rfl
@[reducible] noncomputable def c18 : ConT Go.Proofs.Try.prog := ConT.of mixed 18 true A18 J18 V18 H18 G18 false f18 (fun _ => rfl) T18 K18 (fun _ => all_is (by kernel_rfl)) (fun _ _ => all_is (by kernel_rfl))
/-- (*whirligig/cpu.core).taken -/
abbrev X42 := T_cpu_core
abbrev Y42 := Bool
noncomputable def A42 (x : X42) : List Value := [(.pointer (some ⟨0, 0, none⟩))]
noncomputable def J42 (x : X42) : List (Sl × Bool) := [nf (.live ⟨(T_cpu_core.cells x), true, none⟩)]
noncomputable def V42 (r : Y42) : Value := (.bool r)
noncomputable def H42 (x : X42) (r : Y42) : List (Sl × Bool) := J42 x
noncomputable def G42 (x : X42) : Gd Go.Proofs.Try.prog Y42 :=
  (.n 7 (.k [(0, false)] c45 x fun (r7 : Y45) => (.n 1 (.t [] c18 (x.Cpu.R, r7.X) fun (r9 : Y18) => (.n 1 (Gd.z [(0, false)] r9))))))
theorem K42 (x : X42) : evF Go.Proofs.Try.prog 42 (A42 x) ((J42 x).map (·.1)) (G42 x) = (G42 x).exp fun y => (V42 y, (H42 x y).map (·.1)) := by kernel_rfl
noncomputable def F42 (x : X42) : Option Y42 := (G42 x).run
@[reducible] noncomputable def c42 : Con Go.Proofs.Try.prog := Con.of mixed 42 true A42 J42 V42 H42 G42 F42 (fun _ => rfl) K42 (fun _ => all_is (by kernel_rfl)) (fun _ _ => all_is (by kernel_rfl))
/-- whirligig/micro.form -/
abbrev X36 := Int × Bool
abbrev Y36 := T_api_Form
noncomputable def A36 (x : X36) : List Value := [(.int .u8 x.1), (.bool x.2)]
noncomputable def J36 (x : X36) : List (Sl × Bool) := []
noncomputable def V36 (r : Y36) : Value := (T_api_Form.v r)
noncomputable def H36 (x : X36) (r : Y36) : List (Sl × Bool) := J36 x
noncomputable def G36 (x : X36) : Gd Go.Proofs.Try.prog Y36 :=
  (.n 1 (.s x.2 (.n 1 (.k [] c16 x.1 fun (r3 : Y16) => (.n 1 (Gd.z [] r3)))) (.n 1 (.k [] c15 x.1 fun (r3 : Y15) => (.n 1 (Gd.z [] r3))))))
theorem K36 (x : X36) : evF Go.Proofs.Try.prog 36 (A36 x) ((J36 x).map (·.1)) (G36 x) = (G36 x).exp fun y => (V36 y, (H36 x y).map (·.1)) := by kernel_rfl
noncomputable def F36 (x : X36) : Option Y36 := (G36 x).run
@[reducible] noncomputable def c36 : Con Go.Proofs.Try.prog := Con.of mixed 36 true A36 J36 V36 H36 G36 F36 (fun _ => rfl) K36 (fun _ => all_is (by kernel_rfl)) (fun _ _ => all_is (by kernel_rfl))
/-- whirligig/micro.write -/
abbrev X84 := Int × Int
abbrev Y84 := T_api_Micro
noncomputable def A84 (x : X84) : List Value := [(.int .i64 x.1), (.int .i64 x.2)]
noncomputable def J84 (x : X84) : List (Sl × Bool) := []
noncomputable def V84 (r : Y84) : Value := (T_api_Micro.v r)
noncomputable def H84 (x : X84) (r : Y84) : List (Sl × Bool) := J84 x
noncomputable def G84 (x : X84) : Gd Go.Proofs.Try.prog Y84 :=
  (.n 5 (Gd.z [] (T_api_Micro.mk 2 x.1 x.2)))
theorem K84 (x : X84) : evF Go.Proofs.Try.prog 84 (A84 x) ((J84 x).map (·.1)) (G84 x) = (G84 x).exp fun y => (V84 y, (H84 x y).map (·.1)) := by kernel_rfl
noncomputable def f84 (x : X84) : Y84 := (G84 x).val (T_api_Micro.mk 0 0 0)
theorem T84 (x : X84) : (G84 x).tot = true := by kernel_rfl
@[reducible] noncomputable def c84 : ConT Go.Proofs.Try.prog := ConT.of mixed 84 true A84 J84 V84 H84 G84 (T_api_Micro.mk 0 0 0) f84 (fun _ => rfl) T84 K84 (fun _ => all_is (by kernel_rfl)) (fun _ _ => all_is (by kernel_rfl))
/-- whirligig/micro.cycles -/
abbrev X83_s1 := T_api_Micro
abbrev Y83_s1 := Unit
noncomputable def A83_s1 (x : X83_s1) : List Value := [(.slice (some ⟨0, 0, none⟩) 1 0)]
noncomputable def J83_s1 (x : X83_s1) : List (Sl × Bool) := [nf (.live ⟨(T_api_Micro.cells x), true, some (62, 3)⟩)]
noncomputable def V83_s1 (r : Y83_s1) : Value := (.slice (some ⟨0, 0, none⟩) 1 0)
noncomputable def H83_s1 (x : X83_s1) (r : Y83_s1) : List (Sl × Bool) := J83_s1 x
noncomputable def G83_s1 (x : X83_s1) : Gd Go.Proofs.Try.prog Y83_s1 :=
  (.n 3 (Gd.z [(0, false)] ()))
theorem K83_s1 (x : X83_s1) : evF Go.Proofs.Try.prog 83 (A83_s1 x) ((J83_s1 x).map (·.1)) (G83_s1 x) = (G83_s1 x).exp fun y => (V83_s1 y, (H83_s1 x y).map (·.1)) := by kernel_rfl
noncomputable def f83_s1 (x : X83_s1) : Y83_s1 := (G83_s1 x).val ()
theorem T83_s1 (x : X83_s1) : (G83_s1 x).tot = true := by kernel_rfl
@[reducible] noncomputable def c83_s1 : ConT Go.Proofs.Try.prog := ConT.of mixed 83 true A83_s1 J83_s1 V83_s1 H83_s1 G83_s1 () f83_s1 (fun _ => rfl) T83_s1 K83_s1 (fun _ => all_is (by kernel_rfl)) (fun _ _ => all_is (by kernel_rfl))
/-- whirligig/micro.read -/
abbrev X85 := Int × Int
abbrev Y85 := T_api_Micro
noncomputable def A85 (x : X85) : List Value := [(.int .i64 x.1), (.int .i64 x.2)]
noncomputable def J85 (x : X85) : List (Sl × Bool) := []
noncomputable def V85 (r : Y85) : Value := (T_api_Micro.v r)
noncomputable def H85 (x : X85) (r : Y85) : List (Sl × Bool) := J85 x
noncomputable def G85 (x : X85) : Gd Go.Proofs.Try.prog Y85 :=
  (.n 5 (Gd.z [] (T_api_Micro.mk 1 x.1 x.2)))
theorem K85 (x : X85) : evF Go.Proofs.Try.prog 85 (A85 x) ((J85 x).map (·.1)) (G85 x) = (G85 x).exp fun y => (V85 y, (H85 x y).map (·.1)) := by kernel_rfl
noncomputable def f85 (x : X85) : Y85 := (G85 x).val (T_api_Micro.mk 0 0 0)
theorem T85 (x : X85) : (G85 x).tot = true := by kernel_rfl
@[reducible] noncomputable def c85 : ConT Go.Proofs.Try.prog := ConT.of mixed 85 true A85 J85 V85 H85 G85 (T_api_Micro.mk 0 0 0) f85 (fun _ => rfl) T85 K85 (fun _ => all_is (by kernel_rfl)) (fun _ _ => all_is (by kernel_rfl))
/-- whirligig/micro.lo -/
abbrev X86 := Unit
abbrev Y86 := T_api_Micro
noncomputable def A86 (x : X86) : List Value := []
noncomputable def J86 (x : X86) : List (Sl × Bool) := []
noncomputable def V86 (r : Y86) : Value := (T_api_Micro.v r)
noncomputable def H86 (x : X86) (r : Y86) : List (Sl × Bool) := J86 x
noncomputable def G86 (x : X86) : Gd Go.Proofs.Try.prog Y86 :=
  (.n 1 (.t [] c85 (1, 1) fun (r1 : Y85) => (.n 1 (Gd.z [] r1))))
theorem K86 (x : X86) : evF Go.Proofs.Try.prog 86 (A86 x) ((J86 x).map (·.1)) (G86 x) = (G86 x).exp fun y => (V86 y, (H86 x y).map (·.1)) := by kernel_rfl
noncomputable def f86 (x : X86) : Y86 := (G86 x).val (T_api_Micro.mk 0 0 0)
theorem T86 (x : X86) : (G86 x).tot = true := by kernel_rfl
@[reducible] noncomputable def c86 : ConT Go.Proofs.Try.prog := ConT.of mixed 86 true A86 J86 V86 H86 G86 (T_api_Micro.mk 0 0 0) f86 (fun _ => rfl) T86 K86 (fun _ => all_is (by kernel_rfl)) (fun _ _ => all_is (by kernel_rfl))
/-- whirligig/micro.cycles -/
abbrev X83_s2 := T_api_Micro × T_api_Micro
abbrev Y83_s2 := Unit
noncomputable def A83_s2 (x : X83_s2) : List Value := [(.slice (some ⟨0, 0, none⟩) 2 0)]
noncomputable def J83_s2 (x : X83_s2) : List (Sl × Bool) := [nf (.live ⟨(T_api_Micro.cells x.1) ++ (T_api_Micro.cells x.2), true, some (62, 3)⟩)]
noncomputable def V83_s2 (r : Y83_s2) : Value := (.slice (some ⟨0, 0, none⟩) 2 0)
noncomputable def H83_s2 (x : X83_s2) (r : Y83_s2) : List (Sl × Bool) := J83_s2 x
noncomputable def G83_s2 (x : X83_s2) : Gd Go.Proofs.Try.prog Y83_s2 :=
  (.n 3 (Gd.z [(0, false)] ()))
theorem K83_s2 (x : X83_s2) : evF Go.Proofs.Try.prog 83 (A83_s2 x) ((J83_s2 x).map (·.1)) (G83_s2 x) = (G83_s2 x).exp fun y => (V83_s2 y, (H83_s2 x y).map (·.1)) := by kernel_rfl
noncomputable def f83_s2 (x : X83_s2) : Y83_s2 := (G83_s2 x).val ()
theorem T83_s2 (x : X83_s2) : (G83_s2 x).tot = true := by kernel_rfl
@[reducible] noncomputable def c83_s2 : ConT Go.Proofs.Try.prog := ConT.of mixed 83 true A83_s2 J83_s2 V83_s2 H83_s2 G83_s2 () f83_s2 (fun _ => rfl) T83_s2 K83_s2 (fun _ => all_is (by kernel_rfl)) (fun _ _ => all_is (by kernel_rfl))
/-- whirligig/micro.places -/
abbrev X87 := Int
abbrev Y87 := Int
noncomputable def A87 (x : X87) : List Value := [(.int .i64 x)]
noncomputable def J87 (x : X87) : List (Sl × Bool) := []
noncomputable def V87 (r : Y87) : Value := (.int .i64 r)
noncomputable def H87 (x : X87) (r : Y87) : List (Sl × Bool) := J87 x
noncomputable def G87 (x : X87) : Gd Go.Proofs.Try.prog Y87 :=
  (.n 4 (Gd.ix 3 .i64 ([3, 4, 5, 6] : List Int) (bits .and .i64 x 3) (by kernel_rfl) (.n 1 (Gd.z [] (List.getD ([3, 4, 5, 6] : List Int) (Int.toNat (bits .and .i64 x 3)) 0)))))
theorem K87 (x : X87) : evF Go.Proofs.Try.prog 87 (A87 x) ((J87 x).map (·.1)) (G87 x) = (G87 x).exp fun y => (V87 y, (H87 x y).map (·.1)) := by kernel_rfl
noncomputable def F87 (x : X87) : Option Y87 := (G87 x).run
@[reducible] noncomputable def c87 : Con Go.Proofs.Try.prog := Con.of mixed 87 true A87 J87 V87 H87 G87 F87 (fun _ => rfl) K87 (fun _ => all_is (by kernel_rfl)) (fun _ _ => all_is (by kernel_rfl))
/-- whirligig/micro.hi -/
abbrev X88 := Unit
abbrev Y88 := T_api_Micro
noncomputable def A88 (x : X88) : List Value := []
noncomputable def J88 (x : X88) : List (Sl × Bool) := []
noncomputable def V88 (r : Y88) : Value := (T_api_Micro.v r)
noncomputable def H88 (x : X88) (r : Y88) : List (Sl × Bool) := J88 x
noncomputable def G88 (x : X88) : Gd Go.Proofs.Try.prog Y88 :=
  (.n 1 (.t [] c85 (1, 2) fun (r1 : Y85) => (.n 1 (Gd.z [] r1))))
theorem K88 (x : X88) : evF Go.Proofs.Try.prog 88 (A88 x) ((J88 x).map (·.1)) (G88 x) = (G88 x).exp fun y => (V88 y, (H88 x y).map (·.1)) := by kernel_rfl
noncomputable def f88 (x : X88) : Y88 := (G88 x).val (T_api_Micro.mk 0 0 0)
theorem T88 (x : X88) : (G88 x).tot = true := by kernel_rfl
@[reducible] noncomputable def c88 : ConT Go.Proofs.Try.prog := ConT.of mixed 88 true A88 J88 V88 H88 G88 (T_api_Micro.mk 0 0 0) f88 (fun _ => rfl) T88 K88 (fun _ => all_is (by kernel_rfl)) (fun _ _ => all_is (by kernel_rfl))
/-- whirligig/micro.cycles -/
abbrev X83_s3 := T_api_Micro × T_api_Micro × T_api_Micro
abbrev Y83_s3 := Unit
noncomputable def A83_s3 (x : X83_s3) : List Value := [(.slice (some ⟨0, 0, none⟩) 3 0)]
noncomputable def J83_s3 (x : X83_s3) : List (Sl × Bool) := [nf (.live ⟨(T_api_Micro.cells x.1) ++ (T_api_Micro.cells x.2.1) ++ (T_api_Micro.cells x.2.2), true, some (62, 3)⟩)]
noncomputable def V83_s3 (r : Y83_s3) : Value := (.slice (some ⟨0, 0, none⟩) 3 0)
noncomputable def H83_s3 (x : X83_s3) (r : Y83_s3) : List (Sl × Bool) := J83_s3 x
noncomputable def G83_s3 (x : X83_s3) : Gd Go.Proofs.Try.prog Y83_s3 :=
  (.n 3 (Gd.z [(0, false)] ()))
theorem K83_s3 (x : X83_s3) : evF Go.Proofs.Try.prog 83 (A83_s3 x) ((J83_s3 x).map (·.1)) (G83_s3 x) = (G83_s3 x).exp fun y => (V83_s3 y, (H83_s3 x y).map (·.1)) := by kernel_rfl
noncomputable def f83_s3 (x : X83_s3) : Y83_s3 := (G83_s3 x).val ()
theorem T83_s3 (x : X83_s3) : (G83_s3 x).tot = true := by kernel_rfl
@[reducible] noncomputable def c83_s3 : ConT Go.Proofs.Try.prog := ConT.of mixed 83 true A83_s3 J83_s3 V83_s3 H83_s3 G83_s3 () f83_s3 (fun _ => rfl) T83_s3 K83_s3 (fun _ => all_is (by kernel_rfl)) (fun _ _ => all_is (by kernel_rfl))
/-- whirligig/micro.cycles -/
abbrev X83_s4 := T_api_Micro × T_api_Micro × T_api_Micro × T_api_Micro
abbrev Y83_s4 := Unit
noncomputable def A83_s4 (x : X83_s4) : List Value := [(.slice (some ⟨0, 0, none⟩) 4 0)]
noncomputable def J83_s4 (x : X83_s4) : List (Sl × Bool) := [nf (.live ⟨(T_api_Micro.cells x.1) ++ (T_api_Micro.cells x.2.1) ++ (T_api_Micro.cells x.2.2.1) ++ (T_api_Micro.cells x.2.2.2), true, some (62, 3)⟩)]
noncomputable def V83_s4 (r : Y83_s4) : Value := (.slice (some ⟨0, 0, none⟩) 4 0)
noncomputable def H83_s4 (x : X83_s4) (r : Y83_s4) : List (Sl × Bool) := J83_s4 x
noncomputable def G83_s4 (x : X83_s4) : Gd Go.Proofs.Try.prog Y83_s4 :=
  (.n 3 (Gd.z [(0, false)] ()))
theorem K83_s4 (x : X83_s4) : evF Go.Proofs.Try.prog 83 (A83_s4 x) ((J83_s4 x).map (·.1)) (G83_s4 x) = (G83_s4 x).exp fun y => (V83_s4 y, (H83_s4 x y).map (·.1)) := by kernel_rfl
noncomputable def f83_s4 (x : X83_s4) : Y83_s4 := (G83_s4 x).val ()
theorem T83_s4 (x : X83_s4) : (G83_s4 x).tot = true := by kernel_rfl
@[reducible] noncomputable def c83_s4 : ConT Go.Proofs.Try.prog := ConT.of mixed 83 true A83_s4 J83_s4 V83_s4 H83_s4 G83_s4 () f83_s4 (fun _ => rfl) T83_s4 K83_s4 (fun _ => all_is (by kernel_rfl)) (fun _ _ => all_is (by kernel_rfl))
/-- whirligig/micro.loads -/
abbrev X58 := T_api_Form
abbrev Y58 := Option (T_api_Micro × List T_api_Micro)
noncomputable def A58 (x : X58) : List Value := [(T_api_Form.v x)]
noncomputable def J58 (x : X58) : List (Sl × Bool) := []
noncomputable def V58 (r : Y58) : Value := match r with | none => .slice none 0 0 | some l => .slice (some ⟨0, 0, none⟩) (l.2.length + 1) 0
noncomputable def H58 (x : X58) (r : Y58) : List (Sl × Bool) := match r with | none => J58 x | some l => J58 x ++ [(.live ⟨(l.1 :: l.2).flatMap T_api_Micro.cells, true, some (62, 3)⟩, true)]
noncomputable def G58 (x : X58) : Gd Go.Proofs.Try.prog Y58 :=
  (.n 5 (.s (x.Kind == 7) (.n 3 (.s (6 == x.X) (.t [] c84 (2, 4) fun (r10 : Y84) => (.n 1 (.t [(1, false)] c83_s1 r10 fun (r12 : Y83_s1) => (.n 1 (Gd.z [(1, false)] (some (r10, []))))))) (.n 3 (.s (6 == x.Y) (.t [] c85 (2, 1) fun (r14 : Y85) => (.n 1 (.t [(1, false)] c83_s1 r14 fun (r16 : Y83_s1) => (.n 1 (Gd.z [(1, false)] (some (r14, []))))))) (.n 1 (Gd.z [] none)))))) (.n 1 (.s (x.Kind == 8) (.n 2 (.s (x.X == 6) (.t [] c86 () fun (r11 : Y86) => (.t [] c84 (2, 1) fun (r12 : Y84) => (.n 1 (.t [(1, false)] c83_s2 (r11, r12) fun (r14 : Y83_s2) => (.n 1 (Gd.z [(1, false)] (some (r11, [r12])))))))) (.t [] c86 () fun (r11 : Y86) => (.n 1 (.t [(1, false)] c83_s1 r11 fun (r13 : Y83_s1) => (.n 1 (Gd.z [(1, false)] (some (r11, []))))))))) (.n 1 (.s (x.Kind == 9) (.n 2 (.k [] c87 x.X fun (r12 : Y87) => (.t [] c85 (r12, 1) fun (r13 : Y85) => (.n 1 (.t [(1, false)] c83_s1 r13 fun (r15 : Y83_s1) => (.n 1 (Gd.z [(1, false)] (some (r13, []))))))))) (.n 1 (.s (x.Kind == 10) (.n 2 (.k [] c87 x.X fun (r14 : Y87) => (.t [] c84 (r14, 3) fun (r15 : Y84) => (.n 1 (.t [(1, false)] c83_s1 r15 fun (r17 : Y83_s1) => (.n 1 (Gd.z [(1, false)] (some (r15, []))))))))) (.n 1 (.s (x.Kind == 11) (.t [] c86 () fun (r14 : Y86) => (.t [] c85 (7, 1) fun (r15 : Y85) => (.n 1 (.t [(1, false)] c83_s2 (r14, r15) fun (r17 : Y83_s2) => (.n 1 (Gd.z [(1, false)] (some (r14, [r15])))))))) (.n 1 (.s (x.Kind == 12) (.t [] c86 () fun (r16 : Y86) => (.t [] c84 (7, 3) fun (r17 : Y84) => (.n 1 (.t [(1, false)] c83_s2 (r16, r17) fun (r19 : Y83_s2) => (.n 1 (Gd.z [(1, false)] (some (r16, [r17])))))))) (.n 1 (.s (x.Kind == 13) (.t [] c85 (8, 1) fun (r18 : Y85) => (.n 1 (.t [(1, false)] c83_s1 r18 fun (r20 : Y83_s1) => (.n 1 (Gd.z [(1, false)] (some (r18, []))))))) (.n 1 (.s (x.Kind == 14) (.t [] c84 (8, 3) fun (r20 : Y84) => (.n 1 (.t [(1, false)] c83_s1 r20 fun (r22 : Y83_s1) => (.n 1 (Gd.z [(1, false)] (some (r20, []))))))) (.n 1 (.s (x.Kind == 15) (.t [] c86 () fun (r22 : Y86) => (.t [] c88 () fun (r23 : Y88) => (.t [] c85 (9, 1) fun (r24 : Y85) => (.n 1 (.t [(1, false)] c83_s3 (r22, r23, r24) fun (r26 : Y83_s3) => (.n 1 (Gd.z [(1, false)] (some (r22, [r23, r24]))))))))) (.n 1 (.s (x.Kind == 16) (.t [] c86 () fun (r24 : Y86) => (.t [] c88 () fun (r25 : Y88) => (.t [] c84 (9, 3) fun (r26 : Y84) => (.n 1 (.t [(1, false)] c83_s3 (r24, r25, r26) fun (r28 : Y83_s3) => (.n 1 (Gd.z [(1, false)] (some (r24, [r25, r26]))))))))) (.n 1 (.s (x.Kind == 17) (.t [] c86 () fun (r26 : Y86) => (.t [] c88 () fun (r27 : Y88) => (.n 1 (.t [(1, false)] c83_s2 (r26, r27) fun (r29 : Y83_s2) => (.n 1 (Gd.z [(1, false)] (some (r26, [r27])))))))) (.n 1 (.s (x.Kind == 18) (.t [] c86 () fun (r28 : Y86) => (.t [] c88 () fun (r29 : Y88) => (.t [] c84 (9, 5) fun (r30 : Y84) => (.t [] c84 (10, 6) fun (r31 : Y84) => (.n 1 (.t [(1, false)] c83_s4 (r28, r29, r30, r31) fun (r33 : Y83_s4) => (.n 1 (Gd.z [(1, false)] (some (r28, [r29, r30, r31])))))))))) (.n 1 (Gd.z [] none))))))))))))))))))))))))))
theorem K58 (x : X58) : evF Go.Proofs.Try.prog 58 (A58 x) ((J58 x).map (·.1)) (G58 x) = (G58 x).exp fun y => (V58 y, (H58 x y).map (·.1)) := by kernel_rfl
theorem N58 (x : X58) (y : Y58) : All (nad (H58 x y)) := match y with | none => all_is (by kernel_rfl) | some l => ⟨na_flat (fun _ => rfl) (l.1 :: l.2), trivial⟩
noncomputable def F58 (x : X58) : Option Y58 := (G58 x).run
@[reducible] noncomputable def c58 : Con Go.Proofs.Try.prog := Con.of mixed 58 false A58 J58 V58 H58 G58 F58 (fun _ => rfl) K58 (fun _ => all_is (by kernel_rfl)) N58
/-- whirligig/micro.idle -/
abbrev X89 := Unit
abbrev Y89 := T_api_Micro
noncomputable def A89 (x : X89) : List Value := []
noncomputable def J89 (x : X89) : List (Sl × Bool) := []
noncomputable def V89 (r : Y89) : Value := (T_api_Micro.v r)
noncomputable def H89 (x : X89) (r : Y89) : List (Sl × Bool) := J89 x
noncomputable def G89 (x : X89) : Gd Go.Proofs.Try.prog Y89 :=
  (.n 3 (Gd.z [] (T_api_Micro.mk 0 0 0)))
theorem K89 (x : X89) : evF Go.Proofs.Try.prog 89 (A89 x) ((J89 x).map (·.1)) (G89 x) = (G89 x).exp fun y => (V89 y, (H89 x y).map (·.1)) := by kernel_rfl
noncomputable def f89 (x : X89) : Y89 := (G89 x).val (T_api_Micro.mk 0 0 0)
theorem T89 (x : X89) : (G89 x).tot = true := by kernel_rfl
@[reducible] noncomputable def c89 : ConT Go.Proofs.Try.prog := ConT.of mixed 89 true A89 J89 V89 H89 G89 (T_api_Micro.mk 0 0 0) f89 (fun _ => rfl) T89 K89 (fun _ => all_is (by kernel_rfl)) (fun _ _ => all_is (by kernel_rfl))
/-- whirligig/micro.reckons -/
abbrev X59 := T_api_Form
abbrev Y59 := Option (T_api_Micro × List T_api_Micro)
noncomputable def A59 (x : X59) : List Value := [(T_api_Form.v x)]
noncomputable def J59 (x : X59) : List (Sl × Bool) := []
noncomputable def V59 (r : Y59) : Value := match r with | none => .slice none 0 0 | some l => .slice (some ⟨0, 0, none⟩) (l.2.length + 1) 0
noncomputable def H59 (x : X59) (r : Y59) : List (Sl × Bool) := match r with | none => J59 x | some l => J59 x ++ [(.live ⟨(l.1 :: l.2).flatMap T_api_Micro.cells, true, some (62, 3)⟩, true)]
noncomputable def G59 (x : X59) : Gd Go.Proofs.Try.prog Y59 :=
  (.n 5 (.s (x.Kind == 19) (.t [] c89 () fun (r6 : Y89) => (.n 1 (.t [(1, false)] c83_s1 r6 fun (r8 : Y83_s1) => (.n 1 (Gd.z [(1, false)] (some (r6, []))))))) (.n 1 (.s (x.Kind == 27) (.t [] c89 () fun (r8 : Y89) => (.n 1 (.t [(1, false)] c83_s1 r8 fun (r10 : Y83_s1) => (.n 1 (Gd.z [(1, false)] (some (r8, []))))))) (.n 1 (.s (x.Kind == 28) (.t [] c89 () fun (r10 : Y89) => (.n 1 (.t [(1, false)] c83_s1 r10 fun (r12 : Y83_s1) => (.n 1 (Gd.z [(1, false)] (some (r10, []))))))) (.n 1 (.s (x.Kind == 29) (.t [] c89 () fun (r12 : Y89) => (.n 1 (.t [(1, false)] c83_s1 r12 fun (r14 : Y83_s1) => (.n 1 (Gd.z [(1, false)] (some (r12, []))))))) (.n 1 (.s (x.Kind == 20) (.t [] c86 () fun (r14 : Y86) => (.t [] c89 () fun (r15 : Y89) => (.n 1 (.t [(1, false)] c83_s2 (r14, r15) fun (r17 : Y83_s2) => (.n 1 (Gd.z [(1, false)] (some (r14, [r15])))))))) (.n 1 (.s (x.Kind == 30) (.t [] c86 () fun (r16 : Y86) => (.t [] c89 () fun (r17 : Y89) => (.t [] c89 () fun (r18 : Y89) => (.n 1 (.t [(1, false)] c83_s3 (r16, r17, r18) fun (r20 : Y83_s3) => (.n 1 (Gd.z [(1, false)] (some (r16, [r17, r18]))))))))) (.n 1 (.s (x.Kind == 24) (.t [] c86 () fun (r18 : Y86) => (.n 1 (.t [(1, false)] c83_s1 r18 fun (r20 : Y83_s1) => (.n 1 (Gd.z [(1, false)] (some (r18, []))))))) (.n 1 (.s (x.Kind == 1) (.t [] c86 () fun (r20 : Y86) => (.n 1 (.t [(1, false)] c83_s1 r20 fun (r22 : Y83_s1) => (.n 1 (Gd.z [(1, false)] (some (r20, []))))))) (.n 1 (.s (x.Kind == 23) (.n 2 (.s (x.Y == 6) (.t [] c85 (2, 1) fun (r25 : Y85) => (.n 1 (.t [(1, false)] c83_s1 r25 fun (r27 : Y83_s1) => (.n 1 (Gd.z [(1, false)] (some (r25, []))))))) (.n 1 (Gd.z [] none)))) (.n 1 (.s (x.Kind == 44) (.n 2 (.s (x.Y == 6) (.t [] c85 (2, 1) fun (r27 : Y85) => (.n 1 (.t [(1, false)] c83_s1 r27 fun (r29 : Y83_s1) => (.n 1 (Gd.z [(1, false)] (some (r27, []))))))) (.n 1 (Gd.z [] none)))) (.n 1 (.s (x.Kind == 25) (.n 2 (.s (x.X == 6) (.t [] c85 (2, 1) fun (r29 : Y85) => (.t [] c84 (2, 9) fun (r30 : Y84) => (.n 1 (.t [(1, false)] c83_s2 (r29, r30) fun (r32 : Y83_s2) => (.n 1 (Gd.z [(1, false)] (some (r29, [r30])))))))) (.n 1 (Gd.z [] none)))) (.n 1 (.s (x.Kind == 26) (.n 2 (.s (x.X == 6) (.t [] c85 (2, 1) fun (r31 : Y85) => (.t [] c84 (2, 9) fun (r32 : Y84) => (.n 1 (.t [(1, false)] c83_s2 (r31, r32) fun (r34 : Y83_s2) => (.n 1 (Gd.z [(1, false)] (some (r31, [r32])))))))) (.n 1 (Gd.z [] none)))) (.n 1 (.s (x.Kind == 43) (.n 2 (.s (x.Y == 6) (.t [] c85 (2, 1) fun (r33 : Y85) => (.t [] c84 (2, 9) fun (r34 : Y84) => (.n 1 (.t [(1, false)] c83_s2 (r33, r34) fun (r36 : Y83_s2) => (.n 1 (Gd.z [(1, false)] (some (r33, [r34])))))))) (.n 1 (Gd.z [] none)))) (.n 1 (.s (x.Kind == 45) (.n 2 (.s (x.Y == 6) (.t [] c85 (2, 1) fun (r35 : Y85) => (.t [] c84 (2, 9) fun (r36 : Y84) => (.n 1 (.t [(1, false)] c83_s2 (r35, r36) fun (r38 : Y83_s2) => (.n 1 (Gd.z [(1, false)] (some (r35, [r36])))))))) (.n 1 (Gd.z [] none)))) (.n 1 (.s (x.Kind == 46) (.n 2 (.s (x.Y == 6) (.t [] c85 (2, 1) fun (r37 : Y85) => (.t [] c84 (2, 9) fun (r38 : Y84) => (.n 1 (.t [(1, false)] c83_s2 (r37, r38) fun (r40 : Y83_s2) => (.n 1 (Gd.z [(1, false)] (some (r37, [r38])))))))) (.n 1 (Gd.z [] none)))) (.n 1 (Gd.z [] none))))))))))))))))))))))))))))))))
theorem K59 (x : X59) : evF Go.Proofs.Try.prog 59 (A59 x) ((J59 x).map (·.1)) (G59 x) = (G59 x).exp fun y => (V59 y, (H59 x y).map (·.1)) := by kernel_rfl
theorem N59 (x : X59) (y : Y59) : All (nad (H59 x y)) := match y with | none => all_is (by kernel_rfl) | some l => ⟨na_flat (fun _ => rfl) (l.1 :: l.2), trivial⟩
noncomputable def f59 (x : X59) : Y59 := (G59 x).val none
theorem T59 (x : X59) : (G59 x).tot = true := by kernel_rfl
@[reducible] noncomputable def c59 : ConT Go.Proofs.Try.prog := ConT.of mixed 59 false A59 J59 V59 H59 G59 none f59 (fun _ => rfl) T59 K59 (fun _ => all_is (by kernel_rfl)) N59
/-- whirligig/micro.call -/
abbrev X90_s2 := T_api_Micro × T_api_Micro
abbrev Y90_s2 := T_api_Micro × T_api_Micro × T_api_Micro × T_api_Micro × T_api_Micro
noncomputable def A90_s2 (x : X90_s2) : List Value := [(.slice (some ⟨0, 0, none⟩) 2 0)]
noncomputable def J90_s2 (x : X90_s2) : List (Sl × Bool) := [nf (.live ⟨(T_api_Micro.cells x.1) ++ (T_api_Micro.cells x.2), true, some (62, 3)⟩)]
noncomputable def V90_s2 (r : Y90_s2) : Value := (.slice (some ⟨1, 0, none⟩) 5 0)
noncomputable def H90_s2 (x : X90_s2) (r : Y90_s2) : List (Sl × Bool) := [nf .dead, nf (.live ⟨(T_api_Micro.cells r.1) ++ (T_api_Micro.cells r.2.1) ++ (T_api_Micro.cells r.2.2.1) ++ (T_api_Micro.cells r.2.2.2.1) ++ (T_api_Micro.cells r.2.2.2.2), true, some (62, 3)⟩)]
noncomputable def G90_s2 (x : X90_s2) : Gd Go.Proofs.Try.prog Y90_s2 :=
  (.n 2 (.t [] c89 () fun (r2 : Y89) => (.t [] c84 (11, 8) fun (r3 : Y84) => (.t [] c84 (11, 7) fun (r4 : Y84) => (.n 3 (Gd.z [(0, false), (2, false)] (x.1, x.2, r2, r3, r4)))))))
theorem K90_s2 (x : X90_s2) : evF Go.Proofs.Try.prog 90 (A90_s2 x) ((J90_s2 x).map (·.1)) (G90_s2 x) = (G90_s2 x).exp fun y => (V90_s2 y, (H90_s2 x y).map (·.1)) := by kernel_rfl
noncomputable def f90_s2 (x : X90_s2) : Y90_s2 := (G90_s2 x).val ((T_api_Micro.mk 0 0 0), (T_api_Micro.mk 0 0 0), (T_api_Micro.mk 0 0 0), (T_api_Micro.mk 0 0 0), (T_api_Micro.mk 0 0 0))
theorem T90_s2 (x : X90_s2) : (G90_s2 x).tot = true := by kernel_rfl
@[reducible] noncomputable def c90_s2 : ConT Go.Proofs.Try.prog := ConT.of mixed 90 false A90_s2 J90_s2 V90_s2 H90_s2 G90_s2 ((T_api_Micro.mk 0 0 0), (T_api_Micro.mk 0 0 0), (T_api_Micro.mk 0 0 0), (T_api_Micro.mk 0 0 0), (T_api_Micro.mk 0 0 0)) f90_s2 (fun _ => rfl) T90_s2 K90_s2 (fun _ => all_is (by kernel_rfl)) (fun _ _ => all_is (by kernel_rfl))
/-- whirligig/micro.back -/
abbrev X91_sn := Unit
abbrev Y91_sn := T_api_Micro × T_api_Micro × T_api_Micro
noncomputable def A91_sn (x : X91_sn) : List Value := [(.slice none 0 0)]
noncomputable def J91_sn (x : X91_sn) : List (Sl × Bool) := []
noncomputable def V91_sn (r : Y91_sn) : Value := (.slice (some ⟨0, 0, none⟩) 3 0)
noncomputable def H91_sn (x : X91_sn) (r : Y91_sn) : List (Sl × Bool) := [nf (.live ⟨(T_api_Micro.cells r.1) ++ (T_api_Micro.cells r.2.1) ++ (T_api_Micro.cells r.2.2), true, some (62, 3)⟩)]
noncomputable def G91_sn (x : X91_sn) : Gd Go.Proofs.Try.prog Y91_sn :=
  (.n 2 (.t [] c85 (12, 1) fun (r2 : Y85) => (.t [] c85 (12, 2) fun (r3 : Y85) => (.t [] c89 () fun (r4 : Y89) => (.n 3 (Gd.z [(1, false)] (r2, r3, r4)))))))
theorem K91_sn (x : X91_sn) : evF Go.Proofs.Try.prog 91 (A91_sn x) ((J91_sn x).map (·.1)) (G91_sn x) = (G91_sn x).exp fun y => (V91_sn y, (H91_sn x y).map (·.1)) := by kernel_rfl
noncomputable def f91_sn (x : X91_sn) : Y91_sn := (G91_sn x).val ((T_api_Micro.mk 0 0 0), (T_api_Micro.mk 0 0 0), (T_api_Micro.mk 0 0 0))
theorem T91_sn (x : X91_sn) : (G91_sn x).tot = true := by kernel_rfl
@[reducible] noncomputable def c91_sn : ConT Go.Proofs.Try.prog := ConT.of mixed 91 false A91_sn J91_sn V91_sn H91_sn G91_sn ((T_api_Micro.mk 0 0 0), (T_api_Micro.mk 0 0 0), (T_api_Micro.mk 0 0 0)) f91_sn (fun _ => rfl) T91_sn K91_sn (fun _ => all_is (by kernel_rfl)) (fun _ _ => all_is (by kernel_rfl))
/-- whirligig/micro.back -/
abbrev X91_s1 := T_api_Micro
abbrev Y91_s1 := T_api_Micro × T_api_Micro × T_api_Micro × T_api_Micro
noncomputable def A91_s1 (x : X91_s1) : List Value := [(.slice (some ⟨0, 0, none⟩) 1 0)]
noncomputable def J91_s1 (x : X91_s1) : List (Sl × Bool) := [nf (.live ⟨(T_api_Micro.cells x), true, some (62, 3)⟩)]
noncomputable def V91_s1 (r : Y91_s1) : Value := (.slice (some ⟨1, 0, none⟩) 4 0)
noncomputable def H91_s1 (x : X91_s1) (r : Y91_s1) : List (Sl × Bool) := [nf .dead, nf (.live ⟨(T_api_Micro.cells r.1) ++ (T_api_Micro.cells r.2.1) ++ (T_api_Micro.cells r.2.2.1) ++ (T_api_Micro.cells r.2.2.2), true, some (62, 3)⟩)]
noncomputable def G91_s1 (x : X91_s1) : Gd Go.Proofs.Try.prog Y91_s1 :=
  (.n 2 (.t [] c85 (12, 1) fun (r2 : Y85) => (.t [] c85 (12, 2) fun (r3 : Y85) => (.t [] c89 () fun (r4 : Y89) => (.n 3 (Gd.z [(0, false), (2, false)] (x, r2, r3, r4)))))))
theorem K91_s1 (x : X91_s1) : evF Go.Proofs.Try.prog 91 (A91_s1 x) ((J91_s1 x).map (·.1)) (G91_s1 x) = (G91_s1 x).exp fun y => (V91_s1 y, (H91_s1 x y).map (·.1)) := by kernel_rfl
noncomputable def f91_s1 (x : X91_s1) : Y91_s1 := (G91_s1 x).val ((T_api_Micro.mk 0 0 0), (T_api_Micro.mk 0 0 0), (T_api_Micro.mk 0 0 0), (T_api_Micro.mk 0 0 0))
theorem T91_s1 (x : X91_s1) : (G91_s1 x).tot = true := by kernel_rfl
@[reducible] noncomputable def c91_s1 : ConT Go.Proofs.Try.prog := ConT.of mixed 91 false A91_s1 J91_s1 V91_s1 H91_s1 G91_s1 ((T_api_Micro.mk 0 0 0), (T_api_Micro.mk 0 0 0), (T_api_Micro.mk 0 0 0), (T_api_Micro.mk 0 0 0)) f91_s1 (fun _ => rfl) T91_s1 K91_s1 (fun _ => all_is (by kernel_rfl)) (fun _ _ => all_is (by kernel_rfl))
/-- whirligig/micro.call -/
abbrev X90_sn := Unit
abbrev Y90_sn := T_api_Micro × T_api_Micro × T_api_Micro
noncomputable def A90_sn (x : X90_sn) : List Value := [(.slice none 0 0)]
noncomputable def J90_sn (x : X90_sn) : List (Sl × Bool) := []
noncomputable def V90_sn (r : Y90_sn) : Value := (.slice (some ⟨0, 0, none⟩) 3 0)
noncomputable def H90_sn (x : X90_sn) (r : Y90_sn) : List (Sl × Bool) := [nf (.live ⟨(T_api_Micro.cells r.1) ++ (T_api_Micro.cells r.2.1) ++ (T_api_Micro.cells r.2.2), true, some (62, 3)⟩)]
noncomputable def G90_sn (x : X90_sn) : Gd Go.Proofs.Try.prog Y90_sn :=
  (.n 2 (.t [] c89 () fun (r2 : Y89) => (.t [] c84 (11, 8) fun (r3 : Y84) => (.t [] c84 (11, 7) fun (r4 : Y84) => (.n 3 (Gd.z [(1, false)] (r2, r3, r4)))))))
theorem K90_sn (x : X90_sn) : evF Go.Proofs.Try.prog 90 (A90_sn x) ((J90_sn x).map (·.1)) (G90_sn x) = (G90_sn x).exp fun y => (V90_sn y, (H90_sn x y).map (·.1)) := by kernel_rfl
noncomputable def f90_sn (x : X90_sn) : Y90_sn := (G90_sn x).val ((T_api_Micro.mk 0 0 0), (T_api_Micro.mk 0 0 0), (T_api_Micro.mk 0 0 0))
theorem T90_sn (x : X90_sn) : (G90_sn x).tot = true := by kernel_rfl
@[reducible] noncomputable def c90_sn : ConT Go.Proofs.Try.prog := ConT.of mixed 90 false A90_sn J90_sn V90_sn H90_sn G90_sn ((T_api_Micro.mk 0 0 0), (T_api_Micro.mk 0 0 0), (T_api_Micro.mk 0 0 0)) f90_sn (fun _ => rfl) T90_sn K90_sn (fun _ => all_is (by kernel_rfl)) (fun _ _ => all_is (by kernel_rfl))
/-- whirligig/micro.ways -/
abbrev X60 := T_api_Form × Bool
abbrev Y60 := Option (T_api_Micro × List T_api_Micro)
noncomputable def A60 (x : X60) : List Value := [(T_api_Form.v x.1), (.bool x.2)]
noncomputable def J60 (x : X60) : List (Sl × Bool) := []
noncomputable def V60 (r : Y60) : Value := match r with | none => .slice none 0 0 | some l => .slice (some ⟨0, 0, none⟩) (l.2.length + 1) 0
noncomputable def H60 (x : X60) (r : Y60) : List (Sl × Bool) := match r with | none => J60 x | some l => J60 x ++ [(.live ⟨(l.1 :: l.2).flatMap T_api_Micro.cells, true, some (62, 3)⟩, true)]
noncomputable def G60 (x : X60) : Gd Go.Proofs.Try.prog Y60 :=
  (.n 3 (.s x.2 (.n 5 (.s (x.1.Kind == 36) (.n 1 (.t [] c86 () fun (r11 : Y86) => (.t [] c89 () fun (r12 : Y89) => (.n 1 (.t [(1, false)] c83_s2 (r11, r12) fun (r14 : Y83_s2) => (.n 1 (Gd.z [(1, false)] (some (r11, [r12]))))))))) (.n 1 (.s (x.1.Kind == 37) (.n 1 (.t [] c86 () fun (r13 : Y86) => (.t [] c88 () fun (r14 : Y88) => (.t [] c89 () fun (r15 : Y89) => (.n 1 (.t [(1, false)] c83_s3 (r13, r14, r15) fun (r17 : Y83_s3) => (.n 1 (Gd.z [(1, false)] (some (r13, [r14, r15])))))))))) (.n 1 (.s (x.1.Kind == 39) (.n 1 (.t [] c86 () fun (r15 : Y86) => (.t [] c88 () fun (r16 : Y88) => (.n 1 (.t [(1, false)] c90_s2 (r15, r16) fun (r18 : Y90_s2) => (.n 1 (Gd.z [(2, false)] (some (r18.1, [r18.2.1, r18.2.2.1, r18.2.2.2.1, r18.2.2.2.2]))))))))) (.n 1 (.s (x.1.Kind == 40) (.n 3 (.s (x.1.X == 4) (.t [] c91_sn () fun (r20 : Y91_sn) => (.n 1 (Gd.z [(1, false)] (some (r20.1, [r20.2.1, r20.2.2]))))) (.n 2 (.t [] c89 () fun (r22 : Y89) => (.n 1 (.t [(1, false)] c91_s1 r22 fun (r24 : Y91_s1) => (.n 1 (Gd.z [(2, false)] (some (r24.1, [r24.2.1, r24.2.2.1, r24.2.2.2])))))))))) (.n 1 (.s (x.1.Kind == 41) (.t [] c91_sn () fun (r18 : Y91_sn) => (.n 1 (Gd.z [(1, false)] (some (r18.1, [r18.2.1, r18.2.2]))))) (.n 1 (.s (x.1.Kind == 42) (.t [] c90_sn () fun (r20 : Y90_sn) => (.n 1 (Gd.z [(1, false)] (some (r20.1, [r20.2.1, r20.2.2]))))) (.n 1 (.s (x.1.Kind == 21) (.t [] c89 () fun (r22 : Y89) => (.t [] c84 (11, 10) fun (r23 : Y84) => (.t [] c84 (11, 11) fun (r24 : Y84) => (.n 1 (.t [(1, false)] c83_s3 (r22, r23, r24) fun (r26 : Y83_s3) => (.n 1 (Gd.z [(1, false)] (some (r22, [r23, r24]))))))))) (.n 1 (.s (x.1.Kind == 22) (.t [] c85 (12, 1) fun (r24 : Y85) => (.t [] c85 (12, 2) fun (r25 : Y85) => (.n 1 (.t [(1, false)] c83_s2 (r24, r25) fun (r27 : Y83_s2) => (.n 1 (Gd.z [(1, false)] (some (r24, [r25])))))))) (.n 1 (Gd.z [] none)))))))))))))))))) (.n 8 (.s (x.1.Kind == 36) (.s (x.1.X == 4) (.t [] c86 () fun (r14 : Y86) => (.t [] c89 () fun (r15 : Y89) => (.n 1 (.t [(1, false)] c83_s2 (r14, r15) fun (r17 : Y83_s2) => (.n 1 (Gd.z [(1, false)] (some (r14, [r15])))))))) (.t [] c86 () fun (r14 : Y86) => (.n 1 (.t [(1, false)] c83_s1 r14 fun (r16 : Y83_s1) => (.n 1 (Gd.z [(1, false)] (some (r14, [])))))))) (.n 1 (.s (x.1.Kind == 37) (.s (x.1.X == 4) (.t [] c86 () fun (r16 : Y86) => (.t [] c88 () fun (r17 : Y88) => (.t [] c89 () fun (r18 : Y89) => (.n 1 (.t [(1, false)] c83_s3 (r16, r17, r18) fun (r20 : Y83_s3) => (.n 1 (Gd.z [(1, false)] (some (r16, [r17, r18]))))))))) (.t [] c86 () fun (r16 : Y86) => (.t [] c88 () fun (r17 : Y88) => (.n 1 (.t [(1, false)] c83_s2 (r16, r17) fun (r19 : Y83_s2) => (.n 1 (Gd.z [(1, false)] (some (r16, [r17]))))))))) (.n 1 (.s (x.1.Kind == 39) (.s (x.1.X == 4) (.t [] c86 () fun (r18 : Y86) => (.t [] c88 () fun (r19 : Y88) => (.n 1 (.t [(1, false)] c90_s2 (r18, r19) fun (r21 : Y90_s2) => (.n 1 (Gd.z [(2, false)] (some (r21.1, [r21.2.1, r21.2.2.1, r21.2.2.2.1, r21.2.2.2.2])))))))) (.t [] c86 () fun (r18 : Y86) => (.t [] c88 () fun (r19 : Y88) => (.n 1 (.t [(1, false)] c83_s2 (r18, r19) fun (r21 : Y83_s2) => (.n 1 (Gd.z [(1, false)] (some (r18, [r19]))))))))) (.n 1 (.s (x.1.Kind == 40) (.n 3 (.s (x.1.X == 4) (.t [] c91_sn () fun (r23 : Y91_sn) => (.n 1 (Gd.z [(1, false)] (some (r23.1, [r23.2.1, r23.2.2]))))) (.n 1 (.s (x.1.X == 4) (.t [] c89 () fun (r25 : Y89) => (.n 1 (.t [(1, false)] c91_s1 r25 fun (r27 : Y91_s1) => (.n 1 (Gd.z [(2, false)] (some (r27.1, [r27.2.1, r27.2.2.1, r27.2.2.2]))))))) (.t [] c89 () fun (r25 : Y89) => (.n 1 (.t [(1, false)] c83_s1 r25 fun (r27 : Y83_s1) => (.n 1 (Gd.z [(1, false)] (some (r25, []))))))))))) (.n 1 (.s (x.1.Kind == 41) (.t [] c91_sn () fun (r21 : Y91_sn) => (.n 1 (Gd.z [(1, false)] (some (r21.1, [r21.2.1, r21.2.2]))))) (.n 1 (.s (x.1.Kind == 42) (.t [] c90_sn () fun (r23 : Y90_sn) => (.n 1 (Gd.z [(1, false)] (some (r23.1, [r23.2.1, r23.2.2]))))) (.n 1 (.s (x.1.Kind == 21) (.t [] c89 () fun (r25 : Y89) => (.t [] c84 (11, 10) fun (r26 : Y84) => (.t [] c84 (11, 11) fun (r27 : Y84) => (.n 1 (.t [(1, false)] c83_s3 (r25, r26, r27) fun (r29 : Y83_s3) => (.n 1 (Gd.z [(1, false)] (some (r25, [r26, r27]))))))))) (.n 1 (.s (x.1.Kind == 22) (.t [] c85 (12, 1) fun (r27 : Y85) => (.t [] c85 (12, 2) fun (r28 : Y85) => (.n 1 (.t [(1, false)] c83_s2 (r27, r28) fun (r30 : Y83_s2) => (.n 1 (Gd.z [(1, false)] (some (r27, [r28])))))))) (.n 1 (Gd.z [] none))))))))))))))))))))
theorem K60 (x : X60) : evF Go.Proofs.Try.prog 60 (A60 x) ((J60 x).map (·.1)) (G60 x) = (G60 x).exp fun y => (V60 y, (H60 x y).map (·.1)) := by kernel_rfl
theorem N60 (x : X60) (y : Y60) : All (nad (H60 x y)) := match y with | none => all_is (by kernel_rfl) | some l => ⟨na_flat (fun _ => rfl) (l.1 :: l.2), trivial⟩
noncomputable def f60 (x : X60) : Y60 := (G60 x).val none
theorem T60 (x : X60) : (G60 x).tot = true := by kernel_rfl
@[reducible] noncomputable def c60 : ConT Go.Proofs.Try.prog := ConT.of mixed 60 false A60 J60 V60 H60 G60 none f60 (fun _ => rfl) T60 K60 (fun _ => all_is (by kernel_rfl)) N60
/-- whirligig/micro.Plan -/
abbrev X41 := Int × Bool × Bool
abbrev Y41 := Option (T_api_Micro × List T_api_Micro)
noncomputable def A41 (x : X41) : List Value := [(.int .u8 x.1), (.bool x.2.1), (.bool x.2.2)]
noncomputable def J41 (x : X41) : List (Sl × Bool) := []
noncomputable def V41 (r : Y41) : Value := match r with | none => .slice none 0 0 | some l => .slice (some ⟨0, 0, none⟩) (l.2.length + 1) 0
noncomputable def H41 (x : X41) (r : Y41) : List (Sl × Bool) := match r with | none => J41 x | some l => J41 x ++ [(.live ⟨(l.1 :: l.2).flatMap T_api_Micro.cells, true, some (62, 3)⟩, true)]
noncomputable def G41 (x : X41) : Gd Go.Proofs.Try.prog Y41 :=
  (.n 3 (.k [] c36 (x.1, x.2.1) fun (r3 : Y36) => (.n 3 (.o [] c58 r3 (T_api_Micro × List T_api_Micro) id id (fun _ => rfl) (fun r7 => (.n 5 (Gd.zl [(1, true)] T_api_Micro.cells (fun _ => rfl) ((r7.1 :: r7.2)) (some r7)))) (.n 4 (.m [] c59 r3 (T_api_Micro × List T_api_Micro) id id (fun _ => rfl) (fun r12 => (.n 5 (Gd.zl [(1, true)] T_api_Micro.cells (fun _ => rfl) ((r12.1 :: r12.2)) (some r12)))) (.n 5 (.m [] c60 (r3, x.2.2) (T_api_Micro × List T_api_Micro) id id (fun _ => rfl) (fun r18 => (.n 1 (Gd.zl [(1, true)] T_api_Micro.cells (fun _ => rfl) ((r18.1 :: r18.2)) (some r18)))) (.n 1 (Gd.z [] none))))))))))
theorem K41 (x : X41) : evF Go.Proofs.Try.prog 41 (A41 x) ((J41 x).map (·.1)) (G41 x) = (G41 x).exp fun y => (V41 y, (H41 x y).map (·.1)) := by kernel_rfl
theorem N41 (x : X41) (y : Y41) : All (nad (H41 x y)) := match y with | none => all_is (by kernel_rfl) | some l => ⟨na_flat (fun _ => rfl) (l.1 :: l.2), trivial⟩
noncomputable def F41 (x : X41) : Option Y41 := (G41 x).run
@[reducible] noncomputable def c41 : Con Go.Proofs.Try.prog := Con.of mixed 41 false A41 J41 V41 H41 G41 F41 (fun _ => rfl) K41 (fun _ => all_is (by kernel_rfl)) N41
/-- (*whirligig/cpu.core).cycle -/
abbrev X24 := T_cpu_core
abbrev Y24 := T_api_Micro × Bool
noncomputable def A24 (x : X24) : List Value := [(.pointer (some ⟨0, 0, none⟩))]
noncomputable def J24 (x : X24) : List (Sl × Bool) := [nf (.live ⟨(T_cpu_core.cells x), true, none⟩)]
noncomputable def V24 (r : Y24) : Value := (.tuple ⟨[(T_api_Micro.v r.1), (.bool r.2)]⟩)
noncomputable def H24 (x : X24) (r : Y24) : List (Sl × Bool) := J24 x
noncomputable def G24 (x : X24) : Gd Go.Proofs.Try.prog Y24 :=
  (.n 14 (.s x.Cpu.Cb (.n 4 (.m [(0, false)] c40 x Unit Option.isSome selB selB_ok (fun r19 => (.n 9 (Gd.z [(0, false)] ((T_api_Micro.mk 0 0 0), (x.Cpu.Step == 1))))) (.n 5 (.s x.Cpu.Cb (.n 6 (.s (x.Cpu.Step == 1) (.n 3 (Gd.z [(0, false)] ((T_api_Micro.mk 0 0 0), true))) (.n 11 (.k [(0, false)] c42 x fun (r44 : Y42) => (.o [] c41 (x.Cpu.Op, x.Cpu.Cb, r44) (T_api_Micro × List T_api_Micro) id id (fun _ => rfl) (fun r45 => (.n 3 (.s (decide ((IntKind.wrap .i64 ((IntKind.wrap .i64 ((IntKind.wrap .i64 x.Cpu.Step) - 1)) - 1)) < 0)) (.n 4 (Gd.z [(0, false)] ((T_api_Micro.mk 0 0 0), false))) (.n 4 (.s (decide ((IntKind.wrap .i64 ((IntKind.wrap .i64 ((IntKind.wrap .i64 x.Cpu.Step) - 1)) - 1)) ≥ (((List.length r45.2 + 1) : Nat) : Int))) (.n 3 (Gd.z [(0, false)] ((T_api_Micro.mk 0 0 0), false))) (.n 2 (Gd.ae T_api_Micro.cells 3 (fun _ => rfl) (r45.1 :: r45.2) (IntKind.wrap .i64 ((IntKind.wrap .i64 ((IntKind.wrap .i64 x.Cpu.Step) - 1)) - 1)) (Gd.le T_api_Micro.cells 3 (T_api_Micro.mk 0 0 0) (fun _ => rfl) (r45.1 :: r45.2) (Int.toNat (IntKind.wrap .i64 ((IntKind.wrap .i64 ((IntKind.wrap .i64 x.Cpu.Step) - 1)) - 1))) (.n 2 (Gd.z [(0, false)] ((List.getD (r45.1 :: r45.2) (Int.toNat (IntKind.wrap .i64 ((IntKind.wrap .i64 ((IntKind.wrap .i64 x.Cpu.Step) - 1)) - 1))) (T_api_Micro.mk 0 0 0)), true))))))))))) (.n 3 (.s (decide ((IntKind.wrap .i64 ((IntKind.wrap .i64 ((IntKind.wrap .i64 x.Cpu.Step) - 1)) - 1)) < 0)) (.n 4 (Gd.z [(0, false)] ((T_api_Micro.mk 0 0 0), false))) (.n 4 (.s (decide ((IntKind.wrap .i64 ((IntKind.wrap .i64 ((IntKind.wrap .i64 x.Cpu.Step) - 1)) - 1)) ≥ 0)) (.n 3 (Gd.z [(0, false)] ((T_api_Micro.mk 0 0 0), false))) .f))))))))) .f)))) (.n 1 (.m [(0, false)] c40 x Unit Option.isSome selB selB_ok (fun r16 => (.n 9 (Gd.z [(0, false)] ((T_api_Micro.mk 0 0 0), (x.Cpu.Step == 1))))) (.n 5 (.s x.Cpu.Cb .f (.n 12 (.k [(0, false)] c42 x fun (r35 : Y42) => (.o [] c41 (x.Cpu.Op, x.Cpu.Cb, r35) (T_api_Micro × List T_api_Micro) id id (fun _ => rfl) (fun r36 => (.n 3 (.s (decide ((IntKind.wrap .i64 ((IntKind.wrap .i64 x.Cpu.Step) - 1)) < 0)) (.n 4 (Gd.z [(0, false)] ((T_api_Micro.mk 0 0 0), false))) (.n 4 (.s (decide ((IntKind.wrap .i64 ((IntKind.wrap .i64 x.Cpu.Step) - 1)) ≥ (((List.length r36.2 + 1) : Nat) : Int))) (.n 3 (Gd.z [(0, false)] ((T_api_Micro.mk 0 0 0), false))) (.n 2 (Gd.ae T_api_Micro.cells 3 (fun _ => rfl) (r36.1 :: r36.2) (IntKind.wrap .i64 ((IntKind.wrap .i64 x.Cpu.Step) - 1)) (Gd.le T_api_Micro.cells 3 (T_api_Micro.mk 0 0 0) (fun _ => rfl) (r36.1 :: r36.2) (Int.toNat (IntKind.wrap .i64 ((IntKind.wrap .i64 x.Cpu.Step) - 1))) (.n 2 (Gd.z [(0, false)] ((List.getD (r36.1 :: r36.2) (Int.toNat (IntKind.wrap .i64 ((IntKind.wrap .i64 x.Cpu.Step) - 1))) (T_api_Micro.mk 0 0 0)), true))))))))))) (.n 3 (.s (decide ((IntKind.wrap .i64 ((IntKind.wrap .i64 x.Cpu.Step) - 1)) < 0)) (.n 4 (Gd.z [(0, false)] ((T_api_Micro.mk 0 0 0), false))) (.n 4 (.s (decide ((IntKind.wrap .i64 ((IntKind.wrap .i64 x.Cpu.Step) - 1)) ≥ 0)) (.n 3 (Gd.z [(0, false)] ((T_api_Micro.mk 0 0 0), false))) .f)))))))))))))
theorem K24 (x : X24) : evF Go.Proofs.Try.prog 24 (A24 x) ((J24 x).map (·.1)) (G24 x) = (G24 x).exp fun y => (V24 y, (H24 x y).map (·.1)) := by kernel_rfl
noncomputable def F24 (x : X24) : Option Y24 := (G24 x).run
@[reducible] noncomputable def c24 : Con Go.Proofs.Try.prog := Con.of mixed 24 true A24 J24 V24 H24 G24 F24 (fun _ => rfl) K24 (fun _ => all_is (by kernel_rfl)) (fun _ _ => all_is (by kernel_rfl))
/-- (*whirligig/cpu.core).busy -/
abbrev X20 := T_cpu_core
abbrev Y20 := Bool
noncomputable def A20 (x : X20) : List Value := [(.pointer (some ⟨0, 0, none⟩))]
noncomputable def J20 (x : X20) : List (Sl × Bool) := [nf (.live ⟨(T_cpu_core.cells x), true, none⟩)]
noncomputable def V20 (r : Y20) : Value := (.bool r)
noncomputable def H20 (x : X20) (r : Y20) : List (Sl × Bool) := J20 x
noncomputable def G20 (x : X20) : Gd Go.Proofs.Try.prog Y20 :=
  (.n 2 (.t [(0, false)] c27 x fun (r2 : Y27) => (.s r2 (.n 3 (Gd.z [(0, false)] false)) (.n 7 (.s (x.Cpu.Step == 0) (.n 1 (Gd.z [(0, false)] false)) (.n 6 (.s (x.Cpu.Mode == 4) (.n 7 (Gd.z [(0, false)] (decide (x.Cpu.Step ≤ 4)))) (.n 1 (.k [(0, false)] c24 x fun (r20 : Y24) => (.n 8 (Gd.z [(0, false)] r20.2)))))))))))
theorem K20 (x : X20) : evF Go.Proofs.Try.prog 20 (A20 x) ((J20 x).map (·.1)) (G20 x) = (G20 x).exp fun y => (V20 y, (H20 x y).map (·.1)) := by kernel_rfl
noncomputable def F20 (x : X20) : Option Y20 := (G20 x).run
@[reducible] noncomputable def c20 : Con Go.Proofs.Try.prog := Con.of mixed 20 true A20 J20 V20 H20 G20 F20 (fun _ => rfl) K20 (fun _ => all_is (by kernel_rfl)) (fun _ _ => all_is (by kernel_rfl))
/-- (*whirligig/cpu.core).begin -/
abbrev X21 := T_cpu_core × Int
abbrev Y21 := T_api_Act × T_cpu_core
noncomputable def A21 (x : X21) : List Value := [(.pointer (some ⟨0, 0, none⟩)), (.int .u8 x.2)]
noncomputable def J21 (x : X21) : List (Sl × Bool) := [nf (.live ⟨(T_cpu_core.cells x.1), true, none⟩)]
noncomputable def V21 (r : Y21) : Value := (T_api_Act.v r.1)
noncomputable def H21 (x : X21) (r : Y21) : List (Sl × Bool) := [nf (.live ⟨(T_cpu_core.cells r.2), true, none⟩)]
noncomputable def G21 (x : X21) : Gd Go.Proofs.Try.prog Y21 :=
  (.n 11 (.s x.1.Cpu.Ime (.n 2 (.s (x.2 != 0) (.n 7 (Gd.z [(0, false)] ((T_api_Act.mk 0 0 0), (T_cpu_core.mk ({ x.1.Cpu with Mode := 4, Step := 0 }))))) (.n 9 (.s x.1.Cpu.Arm (.n 18 (Gd.z [(0, false)] ((T_api_Act.mk 1 x.1.Cpu.R.PC 0), (T_cpu_core.mk ({ x.1.Cpu with Ime := true, Arm := false, Mode := 0, Step := 0 }))))) (.n 8 (Gd.z [(0, false)] ((T_api_Act.mk 1 x.1.Cpu.R.PC 0), (T_cpu_core.mk ({ x.1.Cpu with Mode := 0, Step := 0 }))))))))) (.n 10 (.s x.1.Cpu.Arm (.n 18 (Gd.z [(0, false)] ((T_api_Act.mk 1 x.1.Cpu.R.PC 0), (T_cpu_core.mk ({ x.1.Cpu with Ime := true, Arm := false, Mode := 0, Step := 0 }))))) (.n 8 (Gd.z [(0, false)] ((T_api_Act.mk 1 x.1.Cpu.R.PC 0), (T_cpu_core.mk ({ x.1.Cpu with Mode := 0, Step := 0 })))))))))
theorem K21 (x : X21) : evF Go.Proofs.Try.prog 21 (A21 x) ((J21 x).map (·.1)) (G21 x) = (G21 x).exp fun y => (V21 y, (H21 x y).map (·.1)) := by kernel_rfl
noncomputable def f21 (x : X21) : Y21 := (G21 x).val ((T_api_Act.mk 0 0 0), (T_cpu_core.mk (T_api_Cpu.mk (T_api_Regs.mk 0 0 0 0 0 0 0 0 0 0) false false false 0 0 false 0 0 0)))
theorem T21 (x : X21) : (G21 x).tot = true := by kernel_rfl
@[reducible] noncomputable def c21 : ConT Go.Proofs.Try.prog := ConT.of mixed 21 false A21 J21 V21 H21 G21 ((T_api_Act.mk 0 0 0), (T_cpu_core.mk (T_api_Cpu.mk (T_api_Regs.mk 0 0 0 0 0 0 0 0 0 0) false false false 0 0 false 0 0 0))) f21 (fun _ => rfl) T21 K21 (fun _ => all_is (by kernel_rfl)) (fun _ _ => all_is (by kernel_rfl))
/-- whirligig/regs.may -/
abbrev X94 := Int
abbrev Y94 := Int
noncomputable def A94 (x : X94) : List Value := [(.int .i64 x)]
noncomputable def J94 (x : X94) : List (Sl × Bool) := []
noncomputable def V94 (r : Y94) : Value := (.int .i64 r)
noncomputable def H94 (x : X94) (r : Y94) : List (Sl × Bool) := J94 x
noncomputable def G94 (x : X94) : Gd Go.Proofs.Try.prog Y94 :=
  (.n 3 (.s (decide (x < 0)) (.n 3 (Gd.z [] 1)) (.n 3 (.s (decide (x > 7)) (.n 1 (Gd.z [] 1)) (.n 2 (.s (x == 6) (.n 1 (Gd.z [] 7)) (.n 1 (Gd.z [] 0))))))))
theorem K94 (x : X94) : evF Go.Proofs.Try.prog 94 (A94 x) ((J94 x).map (·.1)) (G94 x) = (G94 x).exp fun y => (V94 y, (H94 x y).map (·.1)) := by kernel_rfl
noncomputable def f94 (x : X94) : Y94 := (G94 x).val 0
theorem T94 (x : X94) : (G94 x).tot = true := by kernel_rfl
@[reducible] noncomputable def c94 : ConT Go.Proofs.Try.prog := ConT.of mixed 94 true A94 J94 V94 H94 G94 0 f94 (fun _ => rfl) T94 K94 (fun _ => all_is (by kernel_rfl)) (fun _ _ => all_is (by kernel_rfl))
/-- whirligig/regs.open -/
abbrev X93 := T_api_Regs
abbrev Y93 := T_regs_file
noncomputable def A93 (x : X93) : List Value := [(T_api_Regs.v x)]
noncomputable def J93 (x : X93) : List (Sl × Bool) := []
noncomputable def V93 (r : Y93) : Value := (T_regs_file.v r)
noncomputable def H93 (x : X93) (r : Y93) : List (Sl × Bool) := J93 x
noncomputable def G93 (x : X93) : Gd Go.Proofs.Try.prog Y93 :=
  (.n 20 (Gd.z [] (T_regs_file.mk x.B x.C x.D x.E x.H x.L x.F x.A)))
theorem K93 (x : X93) : evF Go.Proofs.Try.prog 93 (A93 x) ((J93 x).map (·.1)) (G93 x) = (G93 x).exp fun y => (V93 y, (H93 x y).map (·.1)) := by kernel_rfl
noncomputable def f93 (x : X93) : Y93 := (G93 x).val (T_regs_file.mk 0 0 0 0 0 0 0 0)
theorem T93 (x : X93) : (G93 x).tot = true := by kernel_rfl
@[reducible] noncomputable def c93 : ConT Go.Proofs.Try.prog := ConT.of mixed 93 true A93 J93 V93 H93 G93 (T_regs_file.mk 0 0 0 0 0 0 0 0) f93 (fun _ => rfl) T93 K93 (fun _ => all_is (by kernel_rfl)) (fun _ _ => all_is (by kernel_rfl))
/-- whirligig/regs.Get -/
abbrev X63 := T_api_Regs × Int
abbrev Y63 := Int × Int
noncomputable def A63 (x : X63) : List Value := [(T_api_Regs.v x.1), (.int .i64 x.2)]
noncomputable def J63 (x : X63) : List (Sl × Bool) := []
noncomputable def V63 (r : Y63) : Value := (.tuple ⟨[(.int .u8 r.1), (.int .i64 r.2)]⟩)
noncomputable def H63 (x : X63) (r : Y63) : List (Sl × Bool) := J63 x
noncomputable def G63 (x : X63) : Gd Go.Proofs.Try.prog Y63 :=
  (.n 4 (.t [] c94 x.2 fun (r4 : Y94) => (.n 2 (.s (r4 != 0) (.n 3 (Gd.z [] (0, r4))) (.n 1 (.t [] c93 x.1 fun (r9 : Y93) => (.n 1 (Gd.ix 5 .u8 ([r9.a0, r9.a1, r9.a2, r9.a3, r9.a4, r9.a5, r9.a6, r9.a7] : List Int) x.2 (by kernel_rfl) (.n 2 (Gd.z [] ((List.getD ([r9.a0, r9.a1, r9.a2, r9.a3, r9.a4, r9.a5, r9.a6, r9.a7] : List Int) (Int.toNat x.2) 0), 0)))))))))))
theorem K63 (x : X63) : evF Go.Proofs.Try.prog 63 (A63 x) ((J63 x).map (·.1)) (G63 x) = (G63 x).exp fun y => (V63 y, (H63 x y).map (·.1)) := by kernel_rfl
noncomputable def F63 (x : X63) : Option Y63 := (G63 x).run
@[reducible] noncomputable def c63 : Con Go.Proofs.Try.prog := Con.of mixed 63 true A63 J63 V63 H63 G63 F63 (fun _ => rfl) K63 (fun _ => all_is (by kernel_rfl)) (fun _ _ => all_is (by kernel_rfl))
/-- (*whirligig/cpu.core).operand -/
abbrev X46 := T_cpu_core × Int
abbrev Y46 := Int
noncomputable def A46 (x : X46) : List Value := [(.pointer (some ⟨0, 0, none⟩)), (.int .i64 x.2)]
noncomputable def J46 (x : X46) : List (Sl × Bool) := [nf (.live ⟨(T_cpu_core.cells x.1), true, none⟩)]
noncomputable def V46 (r : Y46) : Value := (.int .u8 r)
noncomputable def H46 (x : X46) (r : Y46) : List (Sl × Bool) := J46 x
noncomputable def G46 (x : X46) : Gd Go.Proofs.Try.prog Y46 :=
  (.n 7 (.k [] c63 (x.1.Cpu.R, x.2) fun (r7 : Y63) => (.n 6 (.s (r7.2 == 0) (.n 2 (Gd.z [(0, false)] r7.1)) (.n 6 (Gd.z [(0, false)] x.1.Cpu.Lo))))))
theorem K46 (x : X46) : evF Go.Proofs.Try.prog 46 (A46 x) ((J46 x).map (·.1)) (G46 x) = (G46 x).exp fun y => (V46 y, (H46 x y).map (·.1)) := by kernel_rfl
noncomputable def F46 (x : X46) : Option Y46 := (G46 x).run
@[reducible] noncomputable def c46 : Con Go.Proofs.Try.prog := Con.of mixed 46 true A46 J46 V46 H46 G46 F46 (fun _ => rfl) K46 (fun _ => all_is (by kernel_rfl)) (fun _ _ => all_is (by kernel_rfl))
/-- whirligig/regs.halves -/
abbrev X92 := Int
abbrev Y92 := Int × Int
noncomputable def A92 (x : X92) : List Value := [(.int .i64 x)]
noncomputable def J92 (x : X92) : List (Sl × Bool) := []
noncomputable def V92 (r : Y92) : Value := (.tuple ⟨[(.int .i64 r.1), (.int .i64 r.2)]⟩)
noncomputable def H92 (x : X92) (r : Y92) : List (Sl × Bool) := J92 x
noncomputable def G92 (x : X92) : Gd Go.Proofs.Try.prog Y92 :=
  (.n 3 (.s (x == 4) (.n 2 (Gd.z [] (7, 6))) (.n 7 (Gd.z [] ((IntKind.wrap .i64 (2 * x)), (IntKind.wrap .i64 ((IntKind.wrap .i64 (2 * x)) + 1)))))))
theorem K92 (x : X92) : evF Go.Proofs.Try.prog 92 (A92 x) ((J92 x).map (·.1)) (G92 x) = (G92 x).exp fun y => (V92 y, (H92 x y).map (·.1)) := by kernel_rfl
noncomputable def f92 (x : X92) : Y92 := (G92 x).val (0, 0)
theorem T92 (x : X92) : (G92 x).tot = true := by kernel_rfl
@[reducible] noncomputable def c92 : ConT Go.Proofs.Try.prog := ConT.of mixed 92 true A92 J92 V92 H92 G92 (0, 0) f92 (fun _ => rfl) T92 K92 (fun _ => all_is (by kernel_rfl)) (fun _ _ => all_is (by kernel_rfl))
/-- whirligig/word.Join -/
abbrev X62 := Int × Int
abbrev Y62 := Int
noncomputable def A62 (x : X62) : List Value := [(.int .u8 x.1), (.int .u8 x.2)]
noncomputable def J62 (x : X62) : List (Sl × Bool) := []
noncomputable def V62 (r : Y62) : Value := (.int .u16 r)
noncomputable def H62 (x : X62) (r : Y62) : List (Sl × Bool) := J62 x
noncomputable def G62 (x : X62) : Gd Go.Proofs.Try.prog Y62 :=
  (.n 8 (Gd.z [] (bits .or .u16 (IntKind.wrap .u16 ((IntKind.wrap .u16 x.1) * 2 ^ 8)) (IntKind.wrap .u16 x.2))))
theorem K62 (x : X62) : evF Go.Proofs.Try.prog 62 (A62 x) ((J62 x).map (·.1)) (G62 x) = (G62 x).exp fun y => (V62 y, (H62 x y).map (·.1)) := by kernel_rfl
noncomputable def f62 (x : X62) : Y62 := (G62 x).val 0
theorem T62 (x : X62) : (G62 x).tot = true := by kernel_rfl
@[reducible] noncomputable def c62 : ConT Go.Proofs.Try.prog := ConT.of mixed 62 true A62 J62 V62 H62 G62 0 f62 (fun _ => rfl) T62 K62 (fun _ => all_is (by kernel_rfl)) (fun _ _ => all_is (by kernel_rfl))
/-- whirligig/regs.Pair -/
abbrev X61 := T_api_Regs × Int
abbrev Y61 := Int × Int
noncomputable def A61 (x : X61) : List Value := [(T_api_Regs.v x.1), (.int .i64 x.2)]
noncomputable def J61 (x : X61) : List (Sl × Bool) := []
noncomputable def V61 (r : Y61) : Value := (.tuple ⟨[(.int .u16 r.1), (.int .i64 r.2)]⟩)
noncomputable def H61 (x : X61) (r : Y61) : List (Sl × Bool) := J61 x
noncomputable def G61 (x : X61) : Gd Go.Proofs.Try.prog Y61 :=
  (.n 5 (.s (decide (x.2 < 0)) (.n 4 (Gd.z [] (0, 1))) (.n 3 (.s (decide (x.2 > 4)) (.n 2 (Gd.z [] (0, 1))) (.n 2 (.s (x.2 == 3) (.n 4 (Gd.z [] (x.1.SP, 0))) (.n 1 (.t [] c92 x.2 fun (r14 : Y92) => (.n 6 (.t [] c93 x.1 fun (r21 : Y93) => (.n 3 (Gd.ia r14.1 8 (Gd.lx .u8 ([r21.a0, r21.a1, r21.a2, r21.a3, r21.a4, r21.a5, r21.a6, r21.a7] : List Int) (0 + Int.toNat r14.1 * 1) (.n 1 (Gd.ia r14.2 8 (Gd.lx .u8 ([r21.a0, r21.a1, r21.a2, r21.a3, r21.a4, r21.a5, r21.a6, r21.a7] : List Int) (0 + Int.toNat r14.2 * 1) (.t [] c62 (((List.getD ([r21.a0, r21.a1, r21.a2, r21.a3, r21.a4, r21.a5, r21.a6, r21.a7] : List Int) (0 + Int.toNat r14.1 * 1) 0), (List.getD ([r21.a0, r21.a1, r21.a2, r21.a3, r21.a4, r21.a5, r21.a6, r21.a7] : List Int) (0 + Int.toNat r14.2 * 1) 0)) : X62) fun (r30 : Y62) => (.n 2 (Gd.z [] (r30, 0))))))))))))))))))))
theorem K61 (x : X61) : evF Go.Proofs.Try.prog 61 (A61 x) ((J61 x).map (·.1)) (G61 x) = (G61 x).exp fun y => (V61 y, (H61 x y).map (·.1)) := by kernel_rfl
noncomputable def F61 (x : X61) : Option Y61 := (G61 x).run
@[reducible] noncomputable def c61 : Con Go.Proofs.Try.prog := Con.of mixed 61 true A61 J61 V61 H61 G61 F61 (fun _ => rfl) K61 (fun _ => all_is (by kernel_rfl)) (fun _ _ => all_is (by kernel_rfl))
/-- (*whirligig/cpu.core).pair -/
abbrev X43 := T_cpu_core × Int
abbrev Y43 := Int
noncomputable def A43 (x : X43) : List Value := [(.pointer (some ⟨0, 0, none⟩)), (.int .i64 x.2)]
noncomputable def J43 (x : X43) : List (Sl × Bool) := [nf (.live ⟨(T_cpu_core.cells x.1), true, none⟩)]
noncomputable def V43 (r : Y43) : Value := (.int .u16 r)
noncomputable def H43 (x : X43) (r : Y43) : List (Sl × Bool) := J43 x
noncomputable def G43 (x : X43) : Gd Go.Proofs.Try.prog Y43 :=
  (.n 7 (.k [] c61 (x.1.Cpu.R, x.2) fun (r7 : Y61) => (.n 7 (Gd.z [(0, false)] r7.1))))
theorem K43 (x : X43) : evF Go.Proofs.Try.prog 43 (A43 x) ((J43 x).map (·.1)) (G43 x) = (G43 x).exp fun y => (V43 y, (H43 x y).map (·.1)) := by kernel_rfl
noncomputable def F43 (x : X43) : Option Y43 := (G43 x).run
@[reducible] noncomputable def c43 : Con Go.Proofs.Try.prog := Con.of mixed 43 true A43 J43 V43 H43 G43 F43 (fun _ => rfl) K43 (fun _ => all_is (by kernel_rfl)) (fun _ _ => all_is (by kernel_rfl))
/-- whirligig/alu.add -/
abbrev X95 := Int × Int × Int
abbrev Y95 := Int × T_api_Flags
noncomputable def A95 (x : X95) : List Value := [(.int .u8 x.1), (.int .u8 x.2.1), (.int .u8 x.2.2)]
noncomputable def J95 (x : X95) : List (Sl × Bool) := []
noncomputable def V95 (r : Y95) : Value := (.tuple ⟨[(.int .u8 r.1), (T_api_Flags.v r.2)]⟩)
noncomputable def H95 (x : X95) (r : Y95) : List (Sl × Bool) := J95 x
noncomputable def G95 (x : X95) : Gd Go.Proofs.Try.prog Y95 :=
  (.n 30 (Gd.z [] ((IntKind.wrap .u8 (IntKind.wrap .u16 ((IntKind.wrap .u16 ((IntKind.wrap .u16 x.1) + (IntKind.wrap .u16 x.2.1))) + (IntKind.wrap .u16 x.2.2)))), (T_api_Flags.mk ((IntKind.wrap .u8 (IntKind.wrap .u16 ((IntKind.wrap .u16 ((IntKind.wrap .u16 x.1) + (IntKind.wrap .u16 x.2.1))) + (IntKind.wrap .u16 x.2.2)))) == 0) false ((bits .and .u8 (bits .xor .u8 (bits .xor .u8 x.1 x.2.1) (IntKind.wrap .u8 (IntKind.wrap .u16 ((IntKind.wrap .u16 ((IntKind.wrap .u16 x.1) + (IntKind.wrap .u16 x.2.1))) + (IntKind.wrap .u16 x.2.2))))) 16) != 0) ((Int.fdiv (IntKind.wrap .u16 ((IntKind.wrap .u16 ((IntKind.wrap .u16 x.1) + (IntKind.wrap .u16 x.2.1))) + (IntKind.wrap .u16 x.2.2))) (2 ^ 8)) != 0)))))
theorem K95 (x : X95) : evF Go.Proofs.Try.prog 95 (A95 x) ((J95 x).map (·.1)) (G95 x) = (G95 x).exp fun y => (V95 y, (H95 x y).map (·.1)) := by kernel_rfl
noncomputable def f95 (x : X95) : Y95 := (G95 x).val (0, (T_api_Flags.mk false false false false))
theorem T95 (x : X95) : (G95 x).tot = true := by kernel_rfl
@[reducible] noncomputable def c95 : ConT Go.Proofs.Try.prog := ConT.of mixed 95 true A95 J95 V95 H95 G95 (0, (T_api_Flags.mk false false false false)) f95 (fun _ => rfl) T95 K95 (fun _ => all_is (by kernel_rfl)) (fun _ _ => all_is (by kernel_rfl))
/-- whirligig/alu.Inc -/
abbrev X64 := Int × T_api_Flags
abbrev Y64 := Int × T_api_Flags
noncomputable def A64 (x : X64) : List Value := [(.int .u8 x.1), (T_api_Flags.v x.2)]
noncomputable def J64 (x : X64) : List (Sl × Bool) := []
noncomputable def V64 (r : Y64) : Value := (.tuple ⟨[(.int .u8 r.1), (T_api_Flags.v r.2)]⟩)
noncomputable def H64 (x : X64) (r : Y64) : List (Sl × Bool) := J64 x
noncomputable def G64 (x : X64) : Gd Go.Proofs.Try.prog Y64 :=
  (.n 4 (.t [] c95 (x.1, 1, 0) fun (r4 : Y95) => (.n 14 (Gd.z [] (r4.1, { r4.2 with C := x.2.C })))))
theorem K64 (x : X64) : evF Go.Proofs.Try.prog 64 (A64 x) ((J64 x).map (·.1)) (G64 x) = (G64 x).exp fun y => (V64 y, (H64 x y).map (·.1)) := by kernel_rfl
noncomputable def f64 (x : X64) : Y64 := (G64 x).val (0, (T_api_Flags.mk false false false false))
theorem T64 (x : X64) : (G64 x).tot = true := by kernel_rfl
@[reducible] noncomputable def c64 : ConT Go.Proofs.Try.prog := ConT.of mixed 64 true A64 J64 V64 H64 G64 (0, (T_api_Flags.mk false false false false)) f64 (fun _ => rfl) T64 K64 (fun _ => all_is (by kernel_rfl)) (fun _ _ => all_is (by kernel_rfl))
/-- whirligig/alu.sub -/
abbrev X96 := Int × Int × Int
abbrev Y96 := Int × T_api_Flags
noncomputable def A96 (x : X96) : List Value := [(.int .u8 x.1), (.int .u8 x.2.1), (.int .u8 x.2.2)]
noncomputable def J96 (x : X96) : List (Sl × Bool) := []
noncomputable def V96 (r : Y96) : Value := (.tuple ⟨[(.int .u8 r.1), (T_api_Flags.v r.2)]⟩)
noncomputable def H96 (x : X96) (r : Y96) : List (Sl × Bool) := J96 x
noncomputable def G96 (x : X96) : Gd Go.Proofs.Try.prog Y96 :=
  (.n 7 (.t [] c95 (x.1, (bits .xor .u8 255 x.2.1), (IntKind.wrap .u8 (1 - x.2.2))) fun (r7 : Y95) => (.n 18 (Gd.z [] (r7.1, (T_api_Flags.mk (r7.1 == 0) true (!r7.2.H) (!r7.2.C)))))))
theorem K96 (x : X96) : evF Go.Proofs.Try.prog 96 (A96 x) ((J96 x).map (·.1)) (G96 x) = (G96 x).exp fun y => (V96 y, (H96 x y).map (·.1)) := by kernel_rfl
noncomputable def f96 (x : X96) : Y96 := (G96 x).val (0, (T_api_Flags.mk false false false false))
theorem T96 (x : X96) : (G96 x).tot = true := by kernel_rfl
@[reducible] noncomputable def c96 : ConT Go.Proofs.Try.prog := ConT.of mixed 96 true A96 J96 V96 H96 G96 (0, (T_api_Flags.mk false false false false)) f96 (fun _ => rfl) T96 K96 (fun _ => all_is (by kernel_rfl)) (fun _ _ => all_is (by kernel_rfl))
/-- whirligig/alu.Dec -/
abbrev X65 := Int × T_api_Flags
abbrev Y65 := Int × T_api_Flags
noncomputable def A65 (x : X65) : List Value := [(.int .u8 x.1), (T_api_Flags.v x.2)]
noncomputable def J65 (x : X65) : List (Sl × Bool) := []
noncomputable def V65 (r : Y65) : Value := (.tuple ⟨[(.int .u8 r.1), (T_api_Flags.v r.2)]⟩)
noncomputable def H65 (x : X65) (r : Y65) : List (Sl × Bool) := J65 x
noncomputable def G65 (x : X65) : Gd Go.Proofs.Try.prog Y65 :=
  (.n 4 (.t [] c96 (x.1, 1, 0) fun (r4 : Y96) => (.n 14 (Gd.z [] (r4.1, { r4.2 with C := x.2.C })))))
theorem K65 (x : X65) : evF Go.Proofs.Try.prog 65 (A65 x) ((J65 x).map (·.1)) (G65 x) = (G65 x).exp fun y => (V65 y, (H65 x y).map (·.1)) := by kernel_rfl
noncomputable def f65 (x : X65) : Y65 := (G65 x).val (0, (T_api_Flags.mk false false false false))
theorem T65 (x : X65) : (G65 x).tot = true := by kernel_rfl
@[reducible] noncomputable def c65 : ConT Go.Proofs.Try.prog := ConT.of mixed 65 true A65 J65 V65 H65 G65 (0, (T_api_Flags.mk false false false false)) f65 (fun _ => rfl) T65 K65 (fun _ => all_is (by kernel_rfl)) (fun _ _ => all_is (by kernel_rfl))
/-- whirligig/word.Put -/
abbrev X99 := Int × Int × Bool
abbrev Y99 := Int
noncomputable def A99 (x : X99) : List Value := [(.int .u8 x.1), (.int .i64 x.2.1), (.bool x.2.2)]
noncomputable def J99 (x : X99) : List (Sl × Bool) := []
noncomputable def V99 (r : Y99) : Value := (.int .u8 r)
noncomputable def H99 (x : X99) (r : Y99) : List (Sl × Bool) := J99 x
noncomputable def G99 (x : X99) : Gd Go.Proofs.Try.prog Y99 :=
  (.n 3 (.s (decide (x.2.1 < 0)) (.n 4 (Gd.z [] x.1)) (.n 3 (.s (decide (x.2.1 > 7)) (.n 2 (Gd.z [] x.1)) (.n 1 (.s x.2.2 (.n 2 (Gd.q x.2.1 (.n 2 (Gd.z [] (bits .or .u8 x.1 (IntKind.wrap .u8 (1 * 2 ^ (min (Int.toNat x.2.1) (IntKind.bits .u8))))))))) (.n 2 (Gd.q x.2.1 (.n 2 (Gd.z [] (bits .andNot .u8 x.1 (IntKind.wrap .u8 (1 * 2 ^ (min (Int.toNat x.2.1) (IntKind.bits .u8)))))))))))))))
theorem K99 (x : X99) : evF Go.Proofs.Try.prog 99 (A99 x) ((J99 x).map (·.1)) (G99 x) = (G99 x).exp fun y => (V99 y, (H99 x y).map (·.1)) := by kernel_rfl
noncomputable def F99 (x : X99) : Option Y99 := (G99 x).run
@[reducible] noncomputable def c99 : Con Go.Proofs.Try.prog := Con.of mixed 99 true A99 J99 V99 H99 G99 F99 (fun _ => rfl) K99 (fun _ => all_is (by kernel_rfl)) (fun _ _ => all_is (by kernel_rfl))
/-- whirligig/shift.Do$1 -/
abbrev X97 := Int × Bool
abbrev Y97 := Int × T_api_Flags
noncomputable def A97 (x : X97) : List Value := [(.int .u8 x.1), (.bool x.2)]
noncomputable def J97 (x : X97) : List (Sl × Bool) := []
noncomputable def V97 (r : Y97) : Value := (.tuple ⟨[(.int .u8 r.1), (T_api_Flags.v r.2)]⟩)
noncomputable def H97 (x : X97) (r : Y97) : List (Sl × Bool) := J97 x
noncomputable def G97 (x : X97) : Gd Go.Proofs.Try.prog Y97 :=
  (.n 9 (Gd.z [] (x.1, (T_api_Flags.mk (x.1 == 0) false false x.2))))
theorem K97 (x : X97) : evF Go.Proofs.Try.prog 97 (A97 x) ((J97 x).map (·.1)) (G97 x) = (G97 x).exp fun y => (V97 y, (H97 x y).map (·.1)) := by kernel_rfl
noncomputable def f97 (x : X97) : Y97 := (G97 x).val (0, (T_api_Flags.mk false false false false))
theorem T97 (x : X97) : (G97 x).tot = true := by kernel_rfl
@[reducible] noncomputable def c97 : ConT Go.Proofs.Try.prog := ConT.of mixed 97 true A97 J97 V97 H97 G97 (0, (T_api_Flags.mk false false false false)) f97 (fun _ => rfl) T97 K97 (fun _ => all_is (by kernel_rfl)) (fun _ _ => all_is (by kernel_rfl))
/-- whirligig/shift.Do$2 -/
abbrev X98 := Bool × Int
abbrev Y98 := Int × T_api_Flags
noncomputable def A98 (x : X98) : List Value := [(.bool x.1), (.pointer (some ⟨0, 0, none⟩)), (.pointer (some ⟨1, 0, none⟩))]
noncomputable def J98 (x : X98) : List (Sl × Bool) := [nf (.live ⟨[(.func (.func 97) ⟨[]⟩ ⟨[]⟩)], true, none⟩), nf (.live ⟨[.int .u8 x.2], true, none⟩)]
noncomputable def V98 (r : Y98) : Value := (.tuple ⟨[(.int .u8 r.1), (T_api_Flags.v r.2)]⟩)
noncomputable def H98 (x : X98) (r : Y98) : List (Sl × Bool) := J98 x
noncomputable def G98 (x : X98) : Gd Go.Proofs.Try.prog Y98 :=
  (.n 6 (.k [] c99 ((IntKind.wrap .u8 (x.2 * 2 ^ 1)), 0, x.1) fun (r6 : Y99) => (.n 3 (.t [] c97 (r6, ((bits .and .u8 x.2 128) != 0)) fun (r10 : Y97) => (.n 4 (Gd.z [(0, false), (1, false)] (r10.1, r10.2)))))))
theorem K98 (x : X98) : evF Go.Proofs.Try.prog 98 (A98 x) ((J98 x).map (·.1)) (G98 x) = (G98 x).exp fun y => (V98 y, (H98 x y).map (·.1)) := by kernel_rfl
noncomputable def F98 (x : X98) : Option Y98 := (G98 x).run
@[reducible] noncomputable def c98 : Con Go.Proofs.Try.prog := Con.of mixed 98 true A98 J98 V98 H98 G98 F98 (fun _ => rfl) K98 (fun _ => all_is (by kernel_rfl)) (fun _ _ => all_is (by kernel_rfl))
/-- whirligig/shift.Do$3 -/
abbrev X100 := Bool × Int
abbrev Y100 := Int × T_api_Flags
noncomputable def A100 (x : X100) : List Value := [(.bool x.1), (.pointer (some ⟨0, 0, none⟩)), (.pointer (some ⟨1, 0, none⟩))]
noncomputable def J100 (x : X100) : List (Sl × Bool) := [nf (.live ⟨[(.func (.func 97) ⟨[]⟩ ⟨[]⟩)], true, none⟩), nf (.live ⟨[.int .u8 x.2], true, none⟩)]
noncomputable def V100 (r : Y100) : Value := (.tuple ⟨[(.int .u8 r.1), (T_api_Flags.v r.2)]⟩)
noncomputable def H100 (x : X100) (r : Y100) : List (Sl × Bool) := J100 x
noncomputable def G100 (x : X100) : Gd Go.Proofs.Try.prog Y100 :=
  (.n 6 (.k [] c99 ((Int.fdiv x.2 (2 ^ 1)), 7, x.1) fun (r6 : Y99) => (.n 3 (.t [] c97 (r6, ((bits .and .u8 x.2 1) != 0)) fun (r10 : Y97) => (.n 4 (Gd.z [(0, false), (1, false)] (r10.1, r10.2)))))))
theorem K100 (x : X100) : evF Go.Proofs.Try.prog 100 (A100 x) ((J100 x).map (·.1)) (G100 x) = (G100 x).exp fun y => (V100 y, (H100 x y).map (·.1)) := by kernel_rfl
noncomputable def F100 (x : X100) : Option Y100 := (G100 x).run
@[reducible] noncomputable def c100 : Con Go.Proofs.Try.prog := Con.of mixed 100 true A100 J100 V100 H100 G100 F100 (fun _ => rfl) K100 (fun _ => all_is (by kernel_rfl)) (fun _ _ => all_is (by kernel_rfl))
/-- whirligig/shift.Do -/
abbrev X66 := Int × Int × T_api_Flags
abbrev Y66 := Int × T_api_Flags
noncomputable def A66 (x : X66) : List Value := [(.int .i64 x.1), (.int .u8 x.2.1), (T_api_Flags.v x.2.2)]
noncomputable def J66 (x : X66) : List (Sl × Bool) := []
noncomputable def V66 (r : Y66) : Value := (.tuple ⟨[(.int .u8 r.1), (T_api_Flags.v r.2)]⟩)
noncomputable def H66 (x : X66) (r : Y66) : List (Sl × Bool) := J66 x
noncomputable def G66 (x : X66) : Gd Go.Proofs.Try.prog Y66 :=
  (.n 13 (.s ((bits .and .i64 x.1 7) == 0) (.n 4 (.k [(3, false), (0, false)] c98 (((bits .and .u8 x.2.1 128) != 0), x.2.1) fun (r18 : Y98) => (.n 4 (Gd.z [] (r18.1, r18.2))))) (.n 1 (.s ((bits .and .i64 x.1 7) == 1) (.n 4 (.k [(3, false), (0, false)] c100 (((bits .and .u8 x.2.1 1) != 0), x.2.1) fun (r20 : Y100) => (.n 4 (Gd.z [] (r20.1, r20.2))))) (.n 1 (.s ((bits .and .i64 x.1 7) == 2) (.n 3 (.k [(3, false), (0, false)] c98 (x.2.2.C, x.2.1) fun (r21 : Y98) => (.n 4 (Gd.z [] (r21.1, r21.2))))) (.n 1 (.s ((bits .and .i64 x.1 7) == 3) (.n 3 (.k [(3, false), (0, false)] c100 (x.2.2.C, x.2.1) fun (r23 : Y100) => (.n 4 (Gd.z [] (r23.1, r23.2))))) (.n 1 (.s ((bits .and .i64 x.1 7) == 4) (.n 1 (.k [(3, false), (0, false)] c98 (false, x.2.1) fun (r23 : Y98) => (.n 4 (Gd.z [] (r23.1, r23.2))))) (.n 1 (.s ((bits .and .i64 x.1 7) == 5) (.n 4 (.k [(3, false), (0, false)] c100 (((bits .and .u8 x.2.1 128) != 0), x.2.1) fun (r28 : Y100) => (.n 4 (Gd.z [] (r28.1, r28.2))))) (.n 1 (.s ((bits .and .i64 x.1 7) == 6) (.n 6 (.t [] c97 ((bits .or .u8 (IntKind.wrap .u8 (x.2.1 * 2 ^ 4)) (Int.fdiv x.2.1 (2 ^ 4))), false) fun (r32 : Y97) => (.n 4 (Gd.z [] (r32.1, r32.2))))) (.n 1 (.k [(3, false), (0, false)] c100 (false, x.2.1) fun (r27 : Y100) => (.n 4 (Gd.z [] (r27.1, r27.2)))))))))))))))))))
theorem K66 (x : X66) : evF Go.Proofs.Try.prog 66 (A66 x) ((J66 x).map (·.1)) (G66 x) = (G66 x).exp fun y => (V66 y, (H66 x y).map (·.1)) := by kernel_rfl
noncomputable def F66 (x : X66) : Option Y66 := (G66 x).run
@[reducible] noncomputable def c66 : Con Go.Proofs.Try.prog := Con.of mixed 66 true A66 J66 V66 H66 G66 F66 (fun _ => rfl) K66 (fun _ => all_is (by kernel_rfl)) (fun _ _ => all_is (by kernel_rfl))
/-- whirligig/shift.Res -/
abbrev X67 := Int × Int
abbrev Y67 := Int
noncomputable def A67 (x : X67) : List Value := [(.int .i64 x.1), (.int .u8 x.2)]
noncomputable def J67 (x : X67) : List (Sl × Bool) := []
noncomputable def V67 (r : Y67) : Value := (.int .u8 r)
noncomputable def H67 (x : X67) (r : Y67) : List (Sl × Bool) := J67 x
noncomputable def G67 (x : X67) : Gd Go.Proofs.Try.prog Y67 :=
  (.n 4 (.k [] c99 (x.2, (bits .and .i64 x.1 7), false) fun (r4 : Y99) => (.n 1 (Gd.z [] r4))))
theorem K67 (x : X67) : evF Go.Proofs.Try.prog 67 (A67 x) ((J67 x).map (·.1)) (G67 x) = (G67 x).exp fun y => (V67 y, (H67 x y).map (·.1)) := by kernel_rfl
noncomputable def F67 (x : X67) : Option Y67 := (G67 x).run
@[reducible] noncomputable def c67 : Con Go.Proofs.Try.prog := Con.of mixed 67 true A67 J67 V67 H67 G67 F67 (fun _ => rfl) K67 (fun _ => all_is (by kernel_rfl)) (fun _ _ => all_is (by kernel_rfl))
/-- whirligig/shift.Set -/
abbrev X68 := Int × Int
abbrev Y68 := Int
noncomputable def A68 (x : X68) : List Value := [(.int .i64 x.1), (.int .u8 x.2)]
noncomputable def J68 (x : X68) : List (Sl × Bool) := []
noncomputable def V68 (r : Y68) : Value := (.int .u8 r)
noncomputable def H68 (x : X68) (r : Y68) : List (Sl × Bool) := J68 x
noncomputable def G68 (x : X68) : Gd Go.Proofs.Try.prog Y68 :=
  (.n 4 (.k [] c99 (x.2, (bits .and .i64 x.1 7), true) fun (r4 : Y99) => (.n 1 (Gd.z [] r4))))
theorem K68 (x : X68) : evF Go.Proofs.Try.prog 68 (A68 x) ((J68 x).map (·.1)) (G68 x) = (G68 x).exp fun y => (V68 y, (H68 x y).map (·.1)) := by kernel_rfl
noncomputable def F68 (x : X68) : Option Y68 := (G68 x).run
@[reducible] noncomputable def c68 : Con Go.Proofs.Try.prog := Con.of mixed 68 true A68 J68 V68 H68 G68 F68 (fun _ => rfl) K68 (fun _ => all_is (by kernel_rfl)) (fun _ _ => all_is (by kernel_rfl))
/-- (*whirligig/cpu.core).alters -/
abbrev X47 := T_cpu_core × T_api_Form
abbrev Y47 := Int × T_api_Flags
noncomputable def A47 (x : X47) : List Value := [(.pointer (some ⟨0, 0, none⟩)), (T_api_Form.v x.2)]
noncomputable def J47 (x : X47) : List (Sl × Bool) := [nf (.live ⟨(T_cpu_core.cells x.1), true, none⟩)]
noncomputable def V47 (r : Y47) : Value := (.tuple ⟨[(.int .u8 r.1), (T_api_Flags.v r.2)]⟩)
noncomputable def H47 (x : X47) (r : Y47) : List (Sl × Bool) := J47 x
noncomputable def G47 (x : X47) : Gd Go.Proofs.Try.prog Y47 :=
  (.n 8 (.t [] c37 x.1.Cpu.R fun (r8 : Y37) => (.n 5 (.s (x.2.Kind == 25) (.n 3 (.k [(0, false)] c46 (x.1, x.2.X) fun (r18 : Y46) => (.n 1 (.t [] c64 (r18, r8) fun (r20 : Y64) => (.n 4 (Gd.z [(0, false)] (r20.1, r20.2))))))) (.n 1 (.s (x.2.Kind == 26) (.n 3 (.k [(0, false)] c46 (x.1, x.2.X) fun (r20 : Y46) => (.n 1 (.t [] c65 (r20, r8) fun (r22 : Y65) => (.n 4 (Gd.z [(0, false)] (r22.1, r22.2))))))) (.n 1 (.s (x.2.Kind == 43) (.n 5 (.k [(0, false)] c46 (x.1, x.2.Y) fun (r24 : Y46) => (.n 1 (.k [] c66 (x.2.X, r24, r8) fun (r26 : Y66) => (.n 4 (Gd.z [(0, false)] (r26.1, r26.2))))))) (.n 1 (.s (x.2.Kind == 45) (.n 5 (.k [(0, false)] c46 (x.1, x.2.Y) fun (r26 : Y46) => (.k [] c67 (x.2.X, r26) fun (r27 : Y67) => (.n 3 (Gd.z [(0, false)] (r27, r8)))))) (.n 5 (.k [(0, false)] c46 (x.1, x.2.Y) fun (r26 : Y46) => (.k [] c68 (x.2.X, r26) fun (r27 : Y68) => (.n 3 (Gd.z [(0, false)] (r27, r8))))))))))))))))
theorem K47 (x : X47) : evF Go.Proofs.Try.prog 47 (A47 x) ((J47 x).map (·.1)) (G47 x) = (G47 x).exp fun y => (V47 y, (H47 x y).map (·.1)) := by kernel_rfl
noncomputable def F47 (x : X47) : Option Y47 := (G47 x).run
@[reducible] noncomputable def c47 : Con Go.Proofs.Try.prog := Con.of mixed 47 true A47 J47 V47 H47 G47 F47 (fun _ => rfl) K47 (fun _ => all_is (by kernel_rfl)) (fun _ _ => all_is (by kernel_rfl))
/-- (*whirligig/cpu.core).value -/
abbrev X26 := T_cpu_core × Int
abbrev Y26 := Int
noncomputable def A26 (x : X26) : List Value := [(.pointer (some ⟨0, 0, none⟩)), (.int .i64 x.2)]
noncomputable def J26 (x : X26) : List (Sl × Bool) := [nf (.live ⟨(T_cpu_core.cells x.1), true, none⟩)]
noncomputable def V26 (r : Y26) : Value := (.int .u8 r)
noncomputable def H26 (x : X26) (r : Y26) : List (Sl × Bool) := J26 x
noncomputable def G26 (x : X26) : Gd Go.Proofs.Try.prog Y26 :=
  (.n 2 (.k [(0, false)] c45 x.1 fun (r2 : Y45) => (.n 4 (.s (x.2 == 1) (.n 6 (Gd.z [(0, false)] x.1.Cpu.Lo)) (.n 1 (.s (x.2 == 3) (.n 7 (Gd.z [(0, false)] x.1.Cpu.R.A)) (.n 1 (.s (x.2 == 4) (.n 3 (.k [(0, false)] c46 (x.1, r2.Y) fun (r15 : Y46) => (.n 1 (Gd.z [(0, false)] r15)))) (.n 1 (.s (x.2 == 5) (.n 8 (Gd.z [(0, false)] (IntKind.wrap .u8 x.1.Cpu.R.SP))) (.n 1 (.s (x.2 == 6) (.n 9 (Gd.z [(0, false)] (IntKind.wrap .u8 (Int.fdiv x.1.Cpu.R.SP (2 ^ 8))))) (.n 1 (.s (x.2 == 7) (.n 8 (Gd.z [(0, false)] (IntKind.wrap .u8 x.1.Cpu.R.PC))) (.n 1 (.s (x.2 == 8) (.n 9 (Gd.z [(0, false)] (IntKind.wrap .u8 (Int.fdiv x.1.Cpu.R.PC (2 ^ 8))))) (.n 1 (.s (x.2 == 10) (.n 3 (.k [(0, false)] c43 (x.1, r2.X) fun (r25 : Y43) => (.n 3 (Gd.z [(0, false)] (IntKind.wrap .u8 (Int.fdiv r25 (2 ^ 8))))))) (.n 1 (.s (x.2 == 11) (.n 3 (.k [(0, false)] c43 (x.1, r2.X) fun (r27 : Y43) => (.n 2 (Gd.z [(0, false)] (IntKind.wrap .u8 r27))))) (.n 2 (.k [(0, false)] c47 (x.1, r2) fun (r26 : Y47) => (.n 8 (Gd.z [(0, false)] r26.1))))))))))))))))))))))))
theorem K26 (x : X26) : evF Go.Proofs.Try.prog 26 (A26 x) ((J26 x).map (·.1)) (G26 x) = (G26 x).exp fun y => (V26 y, (H26 x y).map (·.1)) := by kernel_rfl
noncomputable def F26 (x : X26) : Option Y26 := (G26 x).run
@[reducible] noncomputable def c26 : Con Go.Proofs.Try.prog := Con.of mixed 26 true A26 J26 V26 H26 G26 F26 (fun _ => rfl) K26 (fun _ => all_is (by kernel_rfl)) (fun _ _ => all_is (by kernel_rfl))
/-- irq.First, by hand -/
noncomputable def A39 (x : Int) : List Value := [(.int .u8 x)]
noncomputable def J39 (x : Int) : List (Sl × Bool) := []
noncomputable def V39 (r : Int × Bool) : Value := (.tuple ⟨[(.int .i64 r.1), (.bool r.2)]⟩)
noncomputable def H39 (x : Int) (r : Int × Bool) : List (Sl × Bool) := []
noncomputable def f39 (x : Int) : Int × Bool := Go.Proofs.firstOf (Go.Proofs.irqTo x 5)
abbrev Y39 := Int × Bool
@[reducible] noncomputable def c39 : ConT Go.Proofs.Try.prog := ⟨⟨Int, Int × Bool, 39, true, A39, J39, V39, H39, fun x => some (f39 x), fun x y h => Option.some.inj h ▸ irq_first_l x, fun _ => trivial, fun _ _ => trivial⟩, f39, fun _ => rfl⟩
/-- (*whirligig/cpu.core).calls -/
abbrev X22 := T_cpu_core × Int
abbrev Y22 := T_api_Act × Int × T_cpu_core
noncomputable def A22 (x : X22) : List Value := [(.pointer (some ⟨0, 0, none⟩)), (.int .u8 x.2)]
noncomputable def J22 (x : X22) : List (Sl × Bool) := [nf (.live ⟨(T_cpu_core.cells x.1), true, none⟩)]
noncomputable def V22 (r : Y22) : Value := (.tuple ⟨[(T_api_Act.v r.1), (.int .i64 r.2.1)]⟩)
noncomputable def H22 (x : X22) (r : Y22) : List (Sl × Bool) := [nf (.live ⟨(T_cpu_core.cells r.2.2), true, none⟩)]
noncomputable def G22 (x : X22) : Gd Go.Proofs.Try.prog Y22 :=
  (.n 8 (.s (x.1.Cpu.Step == 2) (.n 8 (.k [(0, false)] c26 (x.1, 8) fun (r17 : Y26) => (.n 3 (Gd.z [(0, false)] ((T_api_Act.mk 3 (IntKind.wrap .u16 (x.1.Cpu.R.SP - 1)) r17), (-1), x.1))))) (.n 1 (.s (x.1.Cpu.Step == 3) (.n 8 (.k [(0, false)] c26 (x.1, 7) fun (r19 : Y26) => (.n 4 (.t [] c39 x.2 fun (r24 : Y39) => (.n 6 (.s (!r24.2) (.n 8 (Gd.z [(0, false)] ((T_api_Act.mk 3 (IntKind.wrap .u16 (x.1.Cpu.R.SP - 1)) r19), (-1), (T_cpu_core.mk ({ x.1.Cpu with Lo := 5 }))))) (.n 11 (Gd.z [(0, false)] ((T_api_Act.mk 3 (IntKind.wrap .u16 (x.1.Cpu.R.SP - 1)) r19), r24.1, (T_cpu_core.mk ({ x.1.Cpu with Lo := (IntKind.wrap .u8 r24.1) }))))))))))) (.n 3 (Gd.z [(0, false)] ((T_api_Act.mk 0 0 0), (-1), x.1)))))))
theorem K22 (x : X22) : evF Go.Proofs.Try.prog 22 (A22 x) ((J22 x).map (·.1)) (G22 x) = (G22 x).exp fun y => (V22 y, (H22 x y).map (·.1)) := by kernel_rfl
noncomputable def F22 (x : X22) : Option Y22 := (G22 x).run
@[reducible] noncomputable def c22 : Con Go.Proofs.Try.prog := Con.of mixed 22 false A22 J22 V22 H22 G22 F22 (fun _ => rfl) K22 (fun _ => all_is (by kernel_rfl)) (fun _ _ => all_is (by kernel_rfl))
/-- (*whirligig/cpu.core).fetches -/
abbrev X23 := T_cpu_core
abbrev Y23 := Bool
noncomputable def A23 (x : X23) : List Value := [(.pointer (some ⟨0, 0, none⟩))]
noncomputable def J23 (x : X23) : List (Sl × Bool) := [nf (.live ⟨(T_cpu_core.cells x), true, none⟩)]
noncomputable def V23 (r : Y23) : Value := (.bool r)
noncomputable def H23 (x : X23) (r : Y23) : List (Sl × Bool) := J23 x
noncomputable def G23 (x : X23) : Gd Go.Proofs.Try.prog Y23 :=
  (.n 7 (.s (x.Cpu.Step == 1) (.n 1 (.t [(0, false)] c40 x fun (r9 : Y40) => (.s r9 (.n 3 (Gd.z [(0, false)] true)) (.n 8 (Gd.z [(0, false)] x.Cpu.Cb))))) (.n 2 (Gd.z [(0, false)] false))))
theorem K23 (x : X23) : evF Go.Proofs.Try.prog 23 (A23 x) ((J23 x).map (·.1)) (G23 x) = (G23 x).exp fun y => (V23 y, (H23 x y).map (·.1)) := by kernel_rfl
noncomputable def f23 (x : X23) : Y23 := (G23 x).val false
theorem T23 (x : X23) : (G23 x).tot = true := by kernel_rfl
@[reducible] noncomputable def c23 : ConT Go.Proofs.Try.prog := ConT.of mixed 23 true A23 J23 V23 H23 G23 false f23 (fun _ => rfl) T23 K23 (fun _ => all_is (by kernel_rfl)) (fun _ _ => all_is (by kernel_rfl))
/-- (*whirligig/cpu.core).far -/
abbrev X44 := T_cpu_core
abbrev Y44 := Int
noncomputable def A44 (x : X44) : List Value := [(.pointer (some ⟨0, 0, none⟩))]
noncomputable def J44 (x : X44) : List (Sl × Bool) := [nf (.live ⟨(T_cpu_core.cells x), true, none⟩)]
noncomputable def V44 (r : Y44) : Value := (.int .u16 r)
noncomputable def H44 (x : X44) (r : Y44) : List (Sl × Bool) := J44 x
noncomputable def G44 (x : X44) : Gd Go.Proofs.Try.prog Y44 :=
  (.n 11 (.t [] c62 (x.Cpu.Hi, x.Cpu.Lo) fun (r11 : Y62) => (.n 1 (Gd.z [(0, false)] r11))))
theorem K44 (x : X44) : evF Go.Proofs.Try.prog 44 (A44 x) ((J44 x).map (·.1)) (G44 x) = (G44 x).exp fun y => (V44 y, (H44 x y).map (·.1)) := by kernel_rfl
noncomputable def f44 (x : X44) : Y44 := (G44 x).val 0
theorem T44 (x : X44) : (G44 x).tot = true := by kernel_rfl
@[reducible] noncomputable def c44 : ConT Go.Proofs.Try.prog := ConT.of mixed 44 true A44 J44 V44 H44 G44 0 f44 (fun _ => rfl) T44 K44 (fun _ => all_is (by kernel_rfl)) (fun _ _ => all_is (by kernel_rfl))
/-- (*whirligig/cpu.core).at -/
abbrev X25 := T_cpu_core × Int
abbrev Y25 := Int
noncomputable def A25 (x : X25) : List Value := [(.pointer (some ⟨0, 0, none⟩)), (.int .i64 x.2)]
noncomputable def J25 (x : X25) : List (Sl × Bool) := [nf (.live ⟨(T_cpu_core.cells x.1), true, none⟩)]
noncomputable def V25 (r : Y25) : Value := (.int .u16 r)
noncomputable def H25 (x : X25) (r : Y25) : List (Sl × Bool) := J25 x
noncomputable def G25 (x : X25) : Gd Go.Proofs.Try.prog Y25 :=
  (.n 3 (.s (x.2 == 1) (.n 7 (Gd.z [(0, false)] x.1.Cpu.R.PC)) (.n 1 (.s (x.2 == 2) (.n 1 (.k [(0, false)] c43 (x.1, 2) fun (r7 : Y43) => (.n 1 (Gd.z [(0, false)] r7)))) (.n 1 (.s (x.2 == 5) (.n 1 (.k [(0, false)] c43 (x.1, 2) fun (r9 : Y43) => (.n 1 (Gd.z [(0, false)] r9)))) (.n 1 (.s (x.2 == 6) (.n 1 (.k [(0, false)] c43 (x.1, 2) fun (r11 : Y43) => (.n 1 (Gd.z [(0, false)] r11)))) (.n 1 (.s (x.2 == 3) (.n 1 (.k [(0, false)] c43 (x.1, 0) fun (r13 : Y43) => (.n 1 (Gd.z [(0, false)] r13)))) (.n 1 (.s (x.2 == 4) (.n 1 (.k [(0, false)] c43 (x.1, 1) fun (r15 : Y43) => (.n 1 (Gd.z [(0, false)] r15)))) (.n 1 (.s (x.2 == 7) (.n 8 (Gd.z [(0, false)] (bits .or .u16 65280 (IntKind.wrap .u16 x.1.Cpu.Lo)))) (.n 1 (.s (x.2 == 8) (.n 9 (Gd.z [(0, false)] (bits .or .u16 65280 (IntKind.wrap .u16 x.1.Cpu.R.C)))) (.n 1 (.s (x.2 == 9) (.n 1 (.t [(0, false)] c44 x.1 fun (r21 : Y44) => (.n 1 (Gd.z [(0, false)] r21)))) (.n 1 (.s (x.2 == 10) (.n 1 (.t [(0, false)] c44 x.1 fun (r23 : Y44) => (.n 2 (Gd.z [(0, false)] (IntKind.wrap .u16 (r23 + 1)))))) (.n 1 (.s (x.2 == 11) (.n 8 (Gd.z [(0, false)] (IntKind.wrap .u16 (x.1.Cpu.R.SP - 1)))) (.n 1 (.s (x.2 == 12) (.n 7 (Gd.z [(0, false)] x.1.Cpu.R.SP)) (.n 1 (Gd.z [(0, false)] 0))))))))))))))))))))))))))
theorem K25 (x : X25) : evF Go.Proofs.Try.prog 25 (A25 x) ((J25 x).map (·.1)) (G25 x) = (G25 x).exp fun y => (V25 y, (H25 x y).map (·.1)) := by kernel_rfl
noncomputable def F25 (x : X25) : Option Y25 := (G25 x).run
@[reducible] noncomputable def c25 : Con Go.Proofs.Try.prog := Con.of mixed 25 true A25 J25 V25 H25 G25 F25 (fun _ => rfl) K25 (fun _ => all_is (by kernel_rfl)) (fun _ _ => all_is (by kernel_rfl))
/-- whirligig/cpu.Want -/
abbrev X10 := T_api_Cpu × Int
abbrev Y10 := T_api_Cpu × T_api_Act × Int
noncomputable def A10 (x : X10) : List Value := [(T_api_Cpu.v x.1), (.int .u8 x.2)]
noncomputable def J10 (x : X10) : List (Sl × Bool) := []
noncomputable def V10 (r : Y10) : Value := (.tuple ⟨[(T_api_Cpu.v r.1), (T_api_Act.v r.2.1), (.int .i64 r.2.2)]⟩)
noncomputable def H10 (x : X10) (r : Y10) : List (Sl × Bool) := J10 x
noncomputable def G10 (x : X10) : Gd Go.Proofs.Try.prog Y10 :=
  (.n 17 (.s (x.1.Mode == 3) (.n 8 (Gd.z [] (x.1, (T_api_Act.mk 0 0 0), (-1)))) (.n 6 (.s (x.1.Mode == 2) (.n 4 (.s ((bits .and .u8 (bits .and .u8 x.2 31) 16) == 0) (.n 8 (Gd.z [] (x.1, (T_api_Act.mk 0 0 0), (-1)))) (.n 6 (.s (x.1.Mode == 1) .f (.n 3 (.k [(3, false)] c20 (T_cpu_core.mk x.1) fun (r40 : Y20) => (.n 1 (.s (!r40) (.n 2 (.t [(3, false)] c21 ((T_cpu_core.mk x.1), (bits .and .u8 x.2 31)) fun (r45 : Y21) => (.n 10 (Gd.z [] (r45.2.Cpu, r45.1, (-1)))))) (.n 6 (.s (x.1.Mode == 4) .f (.n 1 (.t [(3, false)] c23 (T_cpu_core.mk x.1) fun (r51 : Y23) => (.s r51 (.n 14 (Gd.z [] (x.1, (T_api_Act.mk 1 x.1.R.PC 0), (-1)))) (.n 1 (.k [(3, false)] c24 (T_cpu_core.mk x.1) fun (r54 : Y24) => (.n 9 (.s (r54.1.Bus == 1) (.n 7 (.k [(3, false)] c25 ((T_cpu_core.mk x.1), r54.1.Place) fun (r72 : Y25) => (.n 4 (Gd.z [] (x.1, (T_api_Act.mk 2 r72 0), (-1)))))) (.n 1 (.s (r54.1.Bus == 2) (.n 7 (.k [(3, false)] c25 ((T_cpu_core.mk x.1), r54.1.Place) fun (r74 : Y25) => (.n 3 (.k [(3, false)] c26 ((T_cpu_core.mk x.1), r54.1.z_Value) fun (r78 : Y26) => (.n 4 (Gd.z [] (x.1, (T_api_Act.mk 3 r74 r78), (-1)))))))) (.n 8 (Gd.z [] (x.1, (T_api_Act.mk 0 0 0), (-1))))))))))))))))))))))) (.n 8 (.s (x.1.Mode == 1) (.n 3 (.s ((bits .and .u8 x.2 31) == 0) (.n 8 (Gd.z [] (x.1, (T_api_Act.mk 0 0 0), (-1)))) (.n 1 (.k [(3, false)] c20 (T_cpu_core.mk x.1) fun (r39 : Y20) => (.n 1 (.s (!r39) (.n 2 (.t [(3, false)] c21 ((T_cpu_core.mk x.1), (bits .and .u8 x.2 31)) fun (r44 : Y21) => (.n 10 (Gd.z [] (r44.2.Cpu, r44.1, (-1)))))) (.n 6 (.s (x.1.Mode == 4) .f (.n 1 (.t [(3, false)] c23 (T_cpu_core.mk x.1) fun (r50 : Y23) => (.s r50 (.n 14 (Gd.z [] (x.1, (T_api_Act.mk 1 x.1.R.PC 0), (-1)))) (.n 1 (.k [(3, false)] c24 (T_cpu_core.mk x.1) fun (r53 : Y24) => (.n 9 (.s (r53.1.Bus == 1) (.n 7 (.k [(3, false)] c25 ((T_cpu_core.mk x.1), r53.1.Place) fun (r71 : Y25) => (.n 4 (Gd.z [] (x.1, (T_api_Act.mk 2 r71 0), (-1)))))) (.n 1 (.s (r53.1.Bus == 2) (.n 7 (.k [(3, false)] c25 ((T_cpu_core.mk x.1), r53.1.Place) fun (r73 : Y25) => (.n 3 (.k [(3, false)] c26 ((T_cpu_core.mk x.1), r53.1.z_Value) fun (r77 : Y26) => (.n 4 (Gd.z [] (x.1, (T_api_Act.mk 3 r73 r77), (-1)))))))) (.n 8 (Gd.z [] (x.1, (T_api_Act.mk 0 0 0), (-1))))))))))))))))))))) (.n 3 (.k [(3, false)] c20 (T_cpu_core.mk x.1) fun (r37 : Y20) => (.n 1 (.s (!r37) (.n 2 (.t [(3, false)] c21 ((T_cpu_core.mk x.1), (bits .and .u8 x.2 31)) fun (r42 : Y21) => (.n 10 (Gd.z [] (r42.2.Cpu, r42.1, (-1)))))) (.n 6 (.s (x.1.Mode == 4) (.n 2 (.k [(3, false)] c22 ((T_cpu_core.mk x.1), (bits .and .u8 x.2 31)) fun (r49 : Y22) => (.n 15 (Gd.z [] (r49.2.2.Cpu, r49.1, r49.2.1))))) (.n 1 (.t [(3, false)] c23 (T_cpu_core.mk x.1) fun (r48 : Y23) => (.s r48 (.n 14 (Gd.z [] (x.1, (T_api_Act.mk 1 x.1.R.PC 0), (-1)))) (.n 1 (.k [(3, false)] c24 (T_cpu_core.mk x.1) fun (r51 : Y24) => (.n 9 (.s (r51.1.Bus == 1) (.n 7 (.k [(3, false)] c25 ((T_cpu_core.mk x.1), r51.1.Place) fun (r69 : Y25) => (.n 4 (Gd.z [] (x.1, (T_api_Act.mk 2 r69 0), (-1)))))) (.n 1 (.s (r51.1.Bus == 2) (.n 7 (.k [(3, false)] c25 ((T_cpu_core.mk x.1), r51.1.Place) fun (r71 : Y25) => (.n 3 (.k [(3, false)] c26 ((T_cpu_core.mk x.1), r51.1.z_Value) fun (r75 : Y26) => (.n 4 (Gd.z [] (x.1, (T_api_Act.mk 3 r71 r75), (-1)))))))) (.n 8 (Gd.z [] (x.1, (T_api_Act.mk 0 0 0), (-1)))))))))))))))))))))))))
theorem K10 (x : X10) : evF Go.Proofs.Try.prog 10 (A10 x) ((J10 x).map (·.1)) (G10 x) = (G10 x).exp fun y => (V10 y, (H10 x y).map (·.1)) := by kernel_rfl
noncomputable def F10 (x : X10) : Option Y10 := (G10 x).run
@[reducible] noncomputable def c10 : Con Go.Proofs.Try.prog := Con.of mixed 10 true A10 J10 V10 H10 G10 F10 (fun _ => rfl) K10 (fun _ => all_is (by kernel_rfl)) (fun _ _ => all_is (by kernel_rfl))
/-- whirligig/irq.is -/
abbrev X69 := Int
abbrev Y69 := Bool
noncomputable def A69 (x : X69) : List Value := [(.int .i64 x)]
noncomputable def J69 (x : X69) : List (Sl × Bool) := []
noncomputable def V69 (r : Y69) : Value := (.bool r)
noncomputable def H69 (x : X69) (r : Y69) : List (Sl × Bool) := J69 x
noncomputable def G69 (x : X69) : Gd Go.Proofs.Try.prog Y69 :=
  (.n 3 (.s (decide (x ≥ 0)) (.n 4 (Gd.z [] (decide (x < 5)))) (.n 2 (Gd.z [] false))))
theorem K69 (x : X69) : evF Go.Proofs.Try.prog 69 (A69 x) ((J69 x).map (·.1)) (G69 x) = (G69 x).exp fun y => (V69 y, (H69 x y).map (·.1)) := by kernel_rfl
noncomputable def f69 (x : X69) : Y69 := (G69 x).val false
theorem T69 (x : X69) : (G69 x).tot = true := by kernel_rfl
@[reducible] noncomputable def c69 : ConT Go.Proofs.Try.prog := ConT.of mixed 69 true A69 J69 V69 H69 G69 false f69 (fun _ => rfl) T69 K69 (fun _ => all_is (by kernel_rfl)) (fun _ _ => all_is (by kernel_rfl))
/-- whirligig/irq.Vector -/
abbrev X48 := Int
abbrev Y48 := Int × Int
noncomputable def A48 (x : X48) : List Value := [(.int .i64 x)]
noncomputable def J48 (x : X48) : List (Sl × Bool) := []
noncomputable def V48 (r : Y48) : Value := (.tuple ⟨[(.int .u16 r.1), (.int .i64 r.2)]⟩)
noncomputable def H48 (x : X48) (r : Y48) : List (Sl × Bool) := J48 x
noncomputable def G48 (x : X48) : Gd Go.Proofs.Try.prog Y48 :=
  (.n 3 (.t [] c69 x fun (r3 : Y69) => (.s (!r3) (.n 2 (Gd.z [] (0, 1))) (.n 6 (Gd.z [] ((IntKind.wrap .u16 (64 + (IntKind.wrap .u16 (8 * (IntKind.wrap .u16 x))))), 0))))))
theorem K48 (x : X48) : evF Go.Proofs.Try.prog 48 (A48 x) ((J48 x).map (·.1)) (G48 x) = (G48 x).exp fun y => (V48 y, (H48 x y).map (·.1)) := by kernel_rfl
noncomputable def f48 (x : X48) : Y48 := (G48 x).val (0, 0)
theorem T48 (x : X48) : (G48 x).tot = true := by kernel_rfl
@[reducible] noncomputable def c48 : ConT Go.Proofs.Try.prog := ConT.of mixed 48 true A48 J48 V48 H48 G48 (0, 0) f48 (fun _ => rfl) T48 K48 (fun _ => all_is (by kernel_rfl)) (fun _ _ => all_is (by kernel_rfl))
/-- (*whirligig/cpu.core).called -/
abbrev X28 := T_cpu_core
abbrev Y28 := T_cpu_core
noncomputable def A28 (x : X28) : List Value := [(.pointer (some ⟨0, 0, none⟩))]
noncomputable def J28 (x : X28) : List (Sl × Bool) := [nf (.live ⟨(T_cpu_core.cells x), true, none⟩)]
noncomputable def V28 (r : Y28) : Value := (.tuple ⟨[]⟩)
noncomputable def H28 (x : X28) (r : Y28) : List (Sl × Bool) := [nf (.live ⟨(T_cpu_core.cells r), true, none⟩)]
noncomputable def G28 (x : X28) : Gd Go.Proofs.Try.prog Y28 :=
  (.n 6 (.s (x.Cpu.Step == 1) (.n 5 (Gd.z [(0, false)] (T_cpu_core.mk ({ x.Cpu with Step := 2 })))) (.n 1 (.s (x.Cpu.Step == 2) (.n 22 (Gd.z [(0, false)] (T_cpu_core.mk ({ x.Cpu with R := { x.Cpu.R with SP := (IntKind.wrap .u16 (x.Cpu.R.SP - 1)) }, Step := (IntKind.wrap .u8 (x.Cpu.Step + 1)) })))) (.n 1 (.s (x.Cpu.Step == 3) (.n 22 (Gd.z [(0, false)] (T_cpu_core.mk ({ x.Cpu with R := { x.Cpu.R with SP := (IntKind.wrap .u16 (x.Cpu.R.SP - 1)) }, Step := (IntKind.wrap .u8 (x.Cpu.Step + 1)) })))) (.n 1 (.s (x.Cpu.Step == 4) (.n 7 (.t [] c48 (IntKind.wrap .i64 x.Cpu.Lo) fun (r20 : Y48) => (.n 18 (Gd.z [(0, false)] (T_cpu_core.mk ({ x.Cpu with R := { x.Cpu.R with PC := r20.1 }, Mode := 0, Step := 0 })))))) (.n 15 (Gd.z [(0, false)] (T_cpu_core.mk ({ x.Cpu with Ime := false, Arm := false, Step := 1 }))))))))))))
theorem K28 (x : X28) : evF Go.Proofs.Try.prog 28 (A28 x) ((J28 x).map (·.1)) (G28 x) = (G28 x).exp fun y => (V28 y, (H28 x y).map (·.1)) := by kernel_rfl
noncomputable def f28 (x : X28) : Y28 := (G28 x).val (T_cpu_core.mk (T_api_Cpu.mk (T_api_Regs.mk 0 0 0 0 0 0 0 0 0 0) false false false 0 0 false 0 0 0))
theorem T28 (x : X28) : (G28 x).tot = true := by kernel_rfl
@[reducible] noncomputable def c28 : ConT Go.Proofs.Try.prog := ConT.of mixed 28 false A28 J28 V28 H28 G28 (T_cpu_core.mk (T_api_Cpu.mk (T_api_Regs.mk 0 0 0 0 0 0 0 0 0 0) false false false 0 0 false 0 0 0)) f28 (fun _ => rfl) T28 K28 (fun _ => all_is (by kernel_rfl)) (fun _ _ => all_is (by kernel_rfl))
/-- (*whirligig/cpu.core).fetched -/
abbrev X29 := T_cpu_core × Int
abbrev Y29 := T_cpu_core
noncomputable def A29 (x : X29) : List Value := [(.pointer (some ⟨0, 0, none⟩)), (.int .u8 x.2)]
noncomputable def J29 (x : X29) : List (Sl × Bool) := [nf (.live ⟨(T_cpu_core.cells x.1), true, none⟩)]
noncomputable def V29 (r : Y29) : Value := (.tuple ⟨[]⟩)
noncomputable def H29 (x : X29) (r : Y29) : List (Sl × Bool) := [nf (.live ⟨(T_cpu_core.cells r), true, none⟩)]
noncomputable def G29 (x : X29) : Gd Go.Proofs.Try.prog Y29 :=
  (.n 16 (.s (!x.1.Cpu.Bug) (.n 22 (Gd.z [(0, false)] (T_cpu_core.mk ({ x.1.Cpu with R := { x.1.Cpu.R with PC := (IntKind.wrap .u16 (x.1.Cpu.R.PC + 1)) }, Bug := false, Op := x.2, Cb := false, Step := 1 })))) (.n 10 (Gd.z [(0, false)] (T_cpu_core.mk ({ x.1.Cpu with Bug := false, Op := x.2, Cb := false, Step := 1 }))))))
theorem K29 (x : X29) : evF Go.Proofs.Try.prog 29 (A29 x) ((J29 x).map (·.1)) (G29 x) = (G29 x).exp fun y => (V29 y, (H29 x y).map (·.1)) := by kernel_rfl
noncomputable def f29 (x : X29) : Y29 := (G29 x).val (T_cpu_core.mk (T_api_Cpu.mk (T_api_Regs.mk 0 0 0 0 0 0 0 0 0 0) false false false 0 0 false 0 0 0))
theorem T29 (x : X29) : (G29 x).tot = true := by kernel_rfl
@[reducible] noncomputable def c29 : ConT Go.Proofs.Try.prog := ConT.of mixed 29 false A29 J29 V29 H29 G29 (T_cpu_core.mk (T_api_Cpu.mk (T_api_Regs.mk 0 0 0 0 0 0 0 0 0 0) false false false 0 0 false 0 0 0)) f29 (fun _ => rfl) T29 K29 (fun _ => all_is (by kernel_rfl)) (fun _ _ => all_is (by kernel_rfl))
/-- (whirligig/regs.file).shut -/
abbrev X102 := T_regs_file × T_api_Regs
abbrev Y102 := T_api_Regs
noncomputable def A102 (x : X102) : List Value := [(T_regs_file.v x.1), (T_api_Regs.v x.2)]
noncomputable def J102 (x : X102) : List (Sl × Bool) := []
noncomputable def V102 (r : Y102) : Value := (T_api_Regs.v r)
noncomputable def H102 (x : X102) (r : Y102) : List (Sl × Bool) := J102 x
noncomputable def G102 (x : X102) : Gd Go.Proofs.Try.prog Y102 :=
  (.n 37 (Gd.z [] (T_api_Regs.mk x.1.a7 x.1.a6 x.1.a0 x.1.a1 x.1.a2 x.1.a3 x.1.a4 x.1.a5 x.2.SP x.2.PC)))
theorem K102 (x : X102) : evF Go.Proofs.Try.prog 102 (A102 x) ((J102 x).map (·.1)) (G102 x) = (G102 x).exp fun y => (V102 y, (H102 x y).map (·.1)) := by kernel_rfl
noncomputable def f102 (x : X102) : Y102 := (G102 x).val (T_api_Regs.mk 0 0 0 0 0 0 0 0 0 0)
theorem T102 (x : X102) : (G102 x).tot = true := by kernel_rfl
@[reducible] noncomputable def c102 : ConT Go.Proofs.Try.prog := ConT.of mixed 102 true A102 J102 V102 H102 G102 (T_api_Regs.mk 0 0 0 0 0 0 0 0 0 0) f102 (fun _ => rfl) T102 K102 (fun _ => all_is (by kernel_rfl)) (fun _ _ => all_is (by kernel_rfl))
/-- whirligig/regs.Put -/
abbrev X103 := T_api_Regs × Int × Int
abbrev Y103 := T_api_Regs × Int
noncomputable def A103 (x : X103) : List Value := [(T_api_Regs.v x.1), (.int .i64 x.2.1), (.int .u8 x.2.2)]
noncomputable def J103 (x : X103) : List (Sl × Bool) := []
noncomputable def V103 (r : Y103) : Value := (.tuple ⟨[(T_api_Regs.v r.1), (.int .i64 r.2)]⟩)
noncomputable def H103 (x : X103) (r : Y103) : List (Sl × Bool) := J103 x
noncomputable def G103 (x : X103) : Gd Go.Proofs.Try.prog Y103 :=
  (.n 4 (.t [] c94 x.2.1 fun (r4 : Y94) => (.n 2 (.s (r4 != 0) (.n 4 (Gd.z [] ((T_api_Regs.mk 0 0 0 0 0 0 0 0 0 0), r4))) (.n 1 (.t [] c93 x.1 fun (r9 : Y93) => (.n 4 (Gd.ia x.2.1 8 (Gd.sx (0 + Int.toNat x.2.1 * 1) 8 (Gd.rx 2 .u8 ([r9.a0, r9.a1, r9.a2, r9.a3, r9.a4, r9.a5, r9.a6, r9.a7] : List Int) (0 + Int.toNat x.2.1 * 1) x.2.2 (.n 2 (.t [] c102 ((T_regs_file.mk (stI (0 + Int.toNat x.2.1 * 1) 0 x.2.2 r9.a0) (stI (0 + Int.toNat x.2.1 * 1) 1 x.2.2 r9.a1) (stI (0 + Int.toNat x.2.1 * 1) 2 x.2.2 r9.a2) (stI (0 + Int.toNat x.2.1 * 1) 3 x.2.2 r9.a3) (stI (0 + Int.toNat x.2.1 * 1) 4 x.2.2 r9.a4) (stI (0 + Int.toNat x.2.1 * 1) 5 x.2.2 r9.a5) (stI (0 + Int.toNat x.2.1 * 1) 6 x.2.2 r9.a6) (stI (0 + Int.toNat x.2.1 * 1) 7 x.2.2 r9.a7)), x.1) fun (r18 : Y102) => (.n 2 (Gd.z [] (r18, 0)))))))))))))))
theorem K103 (x : X103) : evF Go.Proofs.Try.prog 103 (A103 x) ((J103 x).map (·.1)) (G103 x) = (G103 x).exp fun y => (V103 y, (H103 x y).map (·.1)) := by kernel_rfl
noncomputable def F103 (x : X103) : Option Y103 := (G103 x).run
@[reducible] noncomputable def c103 : Con Go.Proofs.Try.prog := Con.of mixed 103 true A103 J103 V103 H103 G103 F103 (fun _ => rfl) K103 (fun _ => all_is (by kernel_rfl)) (fun _ _ => all_is (by kernel_rfl))
/-- (*whirligig/cpu.core).put -/
abbrev X71 := T_cpu_core × Int × Int
abbrev Y71 := T_cpu_core
noncomputable def A71 (x : X71) : List Value := [(.pointer (some ⟨0, 0, none⟩)), (.int .i64 x.2.1), (.int .u8 x.2.2)]
noncomputable def J71 (x : X71) : List (Sl × Bool) := [nf (.live ⟨(T_cpu_core.cells x.1), true, none⟩)]
noncomputable def V71 (r : Y71) : Value := (.tuple ⟨[]⟩)
noncomputable def H71 (x : X71) (r : Y71) : List (Sl × Bool) := [nf (.live ⟨(T_cpu_core.cells r), true, none⟩)]
noncomputable def G71 (x : X71) : Gd Go.Proofs.Try.prog Y71 :=
  (.n 7 (.k [] c103 (x.1.Cpu.R, x.2.1, x.2.2) fun (r7 : Y103) => (.n 7 (.s (r7.2 == 0) (.n 6 (Gd.z [(0, false)] (T_cpu_core.mk ({ x.1.Cpu with R := r7.1 })))) (Gd.z [(0, false)] x.1)))))
theorem K71 (x : X71) : evF Go.Proofs.Try.prog 71 (A71 x) ((J71 x).map (·.1)) (G71 x) = (G71 x).exp fun y => (V71 y, (H71 x y).map (·.1)) := by kernel_rfl
noncomputable def F71 (x : X71) : Option Y71 := (G71 x).run
@[reducible] noncomputable def c71 : Con Go.Proofs.Try.prog := Con.of mixed 71 false A71 J71 V71 H71 G71 F71 (fun _ => rfl) K71 (fun _ => all_is (by kernel_rfl)) (fun _ _ => all_is (by kernel_rfl))
/-- whirligig/word.Split -/
abbrev X101 := Int
abbrev Y101 := Int × Int
noncomputable def A101 (x : X101) : List Value := [(.int .u16 x)]
noncomputable def J101 (x : X101) : List (Sl × Bool) := []
noncomputable def V101 (r : Y101) : Value := (.tuple ⟨[(.int .u8 r.1), (.int .u8 r.2)]⟩)
noncomputable def H101 (x : X101) (r : Y101) : List (Sl × Bool) := J101 x
noncomputable def G101 (x : X101) : Gd Go.Proofs.Try.prog Y101 :=
  (.n 9 (Gd.z [] ((IntKind.wrap .u8 (Int.fdiv x (2 ^ 8))), (IntKind.wrap .u8 x))))
theorem K101 (x : X101) : evF Go.Proofs.Try.prog 101 (A101 x) ((J101 x).map (·.1)) (G101 x) = (G101 x).exp fun y => (V101 y, (H101 x y).map (·.1)) := by kernel_rfl
noncomputable def f101 (x : X101) : Y101 := (G101 x).val (0, 0)
theorem T101 (x : X101) : (G101 x).tot = true := by kernel_rfl
@[reducible] noncomputable def c101 : ConT Go.Proofs.Try.prog := ConT.of mixed 101 true A101 J101 V101 H101 G101 (0, 0) f101 (fun _ => rfl) T101 K101 (fun _ => all_is (by kernel_rfl)) (fun _ _ => all_is (by kernel_rfl))
/-- whirligig/regs.PutPair -/
abbrev X70 := T_api_Regs × Int × Int
abbrev Y70 := T_api_Regs × Int
noncomputable def A70 (x : X70) : List Value := [(T_api_Regs.v x.1), (.int .i64 x.2.1), (.int .u16 x.2.2)]
noncomputable def J70 (x : X70) : List (Sl × Bool) := []
noncomputable def V70 (r : Y70) : Value := (.tuple ⟨[(T_api_Regs.v r.1), (.int .i64 r.2)]⟩)
noncomputable def H70 (x : X70) (r : Y70) : List (Sl × Bool) := J70 x
noncomputable def G70 (x : X70) : Gd Go.Proofs.Try.prog Y70 :=
  (.n 5 (.s (decide (x.2.1 < 0)) (.n 5 (Gd.z [] ((T_api_Regs.mk 0 0 0 0 0 0 0 0 0 0), 1))) (.n 3 (.s (decide (x.2.1 > 4)) (.n 3 (Gd.z [] ((T_api_Regs.mk 0 0 0 0 0 0 0 0 0 0), 1))) (.n 2 (.s (x.2.1 == 3) (.n 6 (Gd.z [] ({ x.1 with SP := x.2.2 }, 0))) (.n 2 (.s (x.2.1 == 4) (.n 4 (.t [] c92 x.2.1 fun (r20 : Y92) => (.n 6 (.t [] c93 x.1 fun (r27 : Y93) => (.n 5 (.t [] c101 (bits .andNot .u16 x.2.2 15) fun (r33 : Y101) => (.n 3 (Gd.ia r20.1 8 (Gd.sx (0 + Int.toNat r20.1 * 1) 8 (Gd.rx 2 .u8 ([r27.a0, r27.a1, r27.a2, r27.a3, r27.a4, r27.a5, r27.a6, r27.a7] : List Int) (0 + Int.toNat r20.1 * 1) r33.1 (Gd.ia r20.2 8 (Gd.sx (0 + Int.toNat r20.2 * 1) 8 (Gd.rx 2 .u8 ([(stI (0 + Int.toNat r20.1 * 1) 0 r33.1 r27.a0), (stI (0 + Int.toNat r20.1 * 1) 1 r33.1 r27.a1), (stI (0 + Int.toNat r20.1 * 1) 2 r33.1 r27.a2), (stI (0 + Int.toNat r20.1 * 1) 3 r33.1 r27.a3), (stI (0 + Int.toNat r20.1 * 1) 4 r33.1 r27.a4), (stI (0 + Int.toNat r20.1 * 1) 5 r33.1 r27.a5), (stI (0 + Int.toNat r20.1 * 1) 6 r33.1 r27.a6), (stI (0 + Int.toNat r20.1 * 1) 7 r33.1 r27.a7)] : List Int) (0 + Int.toNat r20.2 * 1) r33.2 (.n 2 (.t [] c102 ((T_regs_file.mk (stI (0 + Int.toNat r20.2 * 1) 0 r33.2 (stI (0 + Int.toNat r20.1 * 1) 0 r33.1 r27.a0)) (stI (0 + Int.toNat r20.2 * 1) 1 r33.2 (stI (0 + Int.toNat r20.1 * 1) 1 r33.1 r27.a1)) (stI (0 + Int.toNat r20.2 * 1) 2 r33.2 (stI (0 + Int.toNat r20.1 * 1) 2 r33.1 r27.a2)) (stI (0 + Int.toNat r20.2 * 1) 3 r33.2 (stI (0 + Int.toNat r20.1 * 1) 3 r33.1 r27.a3)) (stI (0 + Int.toNat r20.2 * 1) 4 r33.2 (stI (0 + Int.toNat r20.1 * 1) 4 r33.1 r27.a4)) (stI (0 + Int.toNat r20.2 * 1) 5 r33.2 (stI (0 + Int.toNat r20.1 * 1) 5 r33.1 r27.a5)) (stI (0 + Int.toNat r20.2 * 1) 6 r33.2 (stI (0 + Int.toNat r20.1 * 1) 6 r33.1 r27.a6)) (stI (0 + Int.toNat r20.2 * 1) 7 r33.2 (stI (0 + Int.toNat r20.1 * 1) 7 r33.1 r27.a7))), x.1) fun (r43 : Y102) => (.n 2 (Gd.z [] (r43, 0)))))))))))))))))) (.n 1 (.t [] c92 x.2.1 fun (r17 : Y92) => (.n 6 (.t [] c93 x.1 fun (r24 : Y93) => (.n 5 (.t [] c101 x.2.2 fun (r30 : Y101) => (.n 3 (Gd.ia r17.1 8 (Gd.sx (0 + Int.toNat r17.1 * 1) 8 (Gd.rx 2 .u8 ([r24.a0, r24.a1, r24.a2, r24.a3, r24.a4, r24.a5, r24.a6, r24.a7] : List Int) (0 + Int.toNat r17.1 * 1) r30.1 (Gd.ia r17.2 8 (Gd.sx (0 + Int.toNat r17.2 * 1) 8 (Gd.rx 2 .u8 ([(stI (0 + Int.toNat r17.1 * 1) 0 r30.1 r24.a0), (stI (0 + Int.toNat r17.1 * 1) 1 r30.1 r24.a1), (stI (0 + Int.toNat r17.1 * 1) 2 r30.1 r24.a2), (stI (0 + Int.toNat r17.1 * 1) 3 r30.1 r24.a3), (stI (0 + Int.toNat r17.1 * 1) 4 r30.1 r24.a4), (stI (0 + Int.toNat r17.1 * 1) 5 r30.1 r24.a5), (stI (0 + Int.toNat r17.1 * 1) 6 r30.1 r24.a6), (stI (0 + Int.toNat r17.1 * 1) 7 r30.1 r24.a7)] : List Int) (0 + Int.toNat r17.2 * 1) r30.2 (.n 2 (.t [] c102 ((T_regs_file.mk (stI (0 + Int.toNat r17.2 * 1) 0 r30.2 (stI (0 + Int.toNat r17.1 * 1) 0 r30.1 r24.a0)) (stI (0 + Int.toNat r17.2 * 1) 1 r30.2 (stI (0 + Int.toNat r17.1 * 1) 1 r30.1 r24.a1)) (stI (0 + Int.toNat r17.2 * 1) 2 r30.2 (stI (0 + Int.toNat r17.1 * 1) 2 r30.1 r24.a2)) (stI (0 + Int.toNat r17.2 * 1) 3 r30.2 (stI (0 + Int.toNat r17.1 * 1) 3 r30.1 r24.a3)) (stI (0 + Int.toNat r17.2 * 1) 4 r30.2 (stI (0 + Int.toNat r17.1 * 1) 4 r30.1 r24.a4)) (stI (0 + Int.toNat r17.2 * 1) 5 r30.2 (stI (0 + Int.toNat r17.1 * 1) 5 r30.1 r24.a5)) (stI (0 + Int.toNat r17.2 * 1) 6 r30.2 (stI (0 + Int.toNat r17.1 * 1) 6 r30.1 r24.a6)) (stI (0 + Int.toNat r17.2 * 1) 7 r30.2 (stI (0 + Int.toNat r17.1 * 1) 7 r30.1 r24.a7))), x.1) fun (r40 : Y102) => (.n 2 (Gd.z [] (r40, 0))))))))))))))))))))))))))
theorem K70 (x : X70) : evF Go.Proofs.Try.prog 70 (A70 x) ((J70 x).map (·.1)) (G70 x) = (G70 x).exp fun y => (V70 y, (H70 x y).map (·.1)) := by kernel_rfl
noncomputable def F70 (x : X70) : Option Y70 := (G70 x).run
@[reducible] noncomputable def c70 : Con Go.Proofs.Try.prog := Con.of mixed 70 true A70 J70 V70 H70 G70 F70 (fun _ => rfl) K70 (fun _ => all_is (by kernel_rfl)) (fun _ _ => all_is (by kernel_rfl))
/-- (*whirligig/cpu.core).setPair -/
abbrev X49 := T_cpu_core × Int × Int
abbrev Y49 := T_cpu_core
noncomputable def A49 (x : X49) : List Value := [(.pointer (some ⟨0, 0, none⟩)), (.int .i64 x.2.1), (.int .u16 x.2.2)]
noncomputable def J49 (x : X49) : List (Sl × Bool) := [nf (.live ⟨(T_cpu_core.cells x.1), true, none⟩)]
noncomputable def V49 (r : Y49) : Value := (.tuple ⟨[]⟩)
noncomputable def H49 (x : X49) (r : Y49) : List (Sl × Bool) := [nf (.live ⟨(T_cpu_core.cells r), true, none⟩)]
noncomputable def G49 (x : X49) : Gd Go.Proofs.Try.prog Y49 :=
  (.n 8 (.k [] c70 (x.1.Cpu.R, x.2.1, x.2.2) fun (r8 : Y70) => (.n 7 (Gd.z [(0, false)] (T_cpu_core.mk ({ x.1.Cpu with R := r8.1 }))))))
theorem K49 (x : X49) : evF Go.Proofs.Try.prog 49 (A49 x) ((J49 x).map (·.1)) (G49 x) = (G49 x).exp fun y => (V49 y, (H49 x y).map (·.1)) := by kernel_rfl
noncomputable def F49 (x : X49) : Option Y49 := (G49 x).run
@[reducible] noncomputable def c49 : Con Go.Proofs.Try.prog := Con.of mixed 49 false A49 J49 V49 H49 G49 F49 (fun _ => rfl) K49 (fun _ => all_is (by kernel_rfl)) (fun _ _ => all_is (by kernel_rfl))
/-- (*whirligig/cpu.core).loaded -/
abbrev X50 := T_cpu_core × T_api_Form
abbrev Y50 := T_cpu_core
noncomputable def A50 (x : X50) : List Value := [(.pointer (some ⟨0, 0, none⟩)), (T_api_Form.v x.2)]
noncomputable def J50 (x : X50) : List (Sl × Bool) := [nf (.live ⟨(T_cpu_core.cells x.1), true, none⟩)]
noncomputable def V50 (r : Y50) : Value := (.tuple ⟨[]⟩)
noncomputable def H50 (x : X50) (r : Y50) : List (Sl × Bool) := [nf (.live ⟨(T_cpu_core.cells r), true, none⟩)]
noncomputable def G50 (x : X50) : Gd Go.Proofs.Try.prog Y50 :=
  (.n 4 (.s (x.2.Kind == 7) (.n 6 (.k [(0, false)] c46 (x.1, x.2.Y) fun (r11 : Y46) => (.k [(0, false)] c71 (x.1, x.2.X, r11) fun (r12 : Y71) => (Gd.z [(0, false)] r12)))) (.n 1 (.s (x.2.Kind == 8) (.n 8 (.k [(0, false)] c71 (x.1, x.2.X, x.1.Cpu.Lo) fun (r15 : Y71) => (Gd.z [(0, false)] r15))) (.n 1 (.s (x.2.Kind == 17) (.n 4 (.t [(0, false)] c44 x.1 fun (r13 : Y44) => (.k [(0, false)] c49 (x.1, x.2.X, r13) fun (r14 : Y49) => (Gd.z [(0, false)] r14)))) (.n 1 (.s (x.2.Kind == 22) (.n 4 (.t [(0, false)] c44 x.1 fun (r15 : Y44) => (.k [(0, false)] c49 (x.1, x.2.X, r15) fun (r16 : Y49) => (Gd.z [(0, false)] r16)))) (.n 1 (.s (x.2.Kind == 19) (.n 2 (.k [(0, false)] c43 (x.1, 2) fun (r15 : Y43) => (.n 5 (Gd.z [(0, false)] (T_cpu_core.mk ({ x.1.Cpu with R := { x.1.Cpu.R with SP := r15 } })))))) (.n 11 (Gd.z [(0, false)] (T_cpu_core.mk ({ x.1.Cpu with R := { x.1.Cpu.R with A := x.1.Cpu.Lo } }))))))))))))))
theorem K50 (x : X50) : evF Go.Proofs.Try.prog 50 (A50 x) ((J50 x).map (·.1)) (G50 x) = (G50 x).exp fun y => (V50 y, (H50 x y).map (·.1)) := by kernel_rfl
noncomputable def F50 (x : X50) : Option Y50 := (G50 x).run
@[reducible] noncomputable def c50 : Con Go.Proofs.Try.prog := Con.of mixed 50 false A50 J50 V50 H50 G50 F50 (fun _ => rfl) K50 (fun _ => all_is (by kernel_rfl)) (fun _ _ => all_is (by kernel_rfl))
/-- whirligig/word.Signed -/
abbrev X72 := Int
abbrev Y72 := Int
noncomputable def A72 (x : X72) : List Value := [(.int .u8 x)]
noncomputable def J72 (x : X72) : List (Sl × Bool) := []
noncomputable def V72 (r : Y72) : Value := (.int .i64 r)
noncomputable def H72 (x : X72) (r : Y72) : List (Sl × Bool) := J72 x
noncomputable def G72 (x : X72) : Gd Go.Proofs.Try.prog Y72 :=
  (.n 5 (Gd.z [] (IntKind.wrap .i64 (IntKind.wrap .i8 x))))
theorem K72 (x : X72) : evF Go.Proofs.Try.prog 72 (A72 x) ((J72 x).map (·.1)) (G72 x) = (G72 x).exp fun y => (V72 y, (H72 x y).map (·.1)) := by kernel_rfl
noncomputable def f72 (x : X72) : Y72 := (G72 x).val 0
theorem T72 (x : X72) : (G72 x).tot = true := by kernel_rfl
@[reducible] noncomputable def c72 : ConT Go.Proofs.Try.prog := ConT.of mixed 72 true A72 J72 V72 H72 G72 0 f72 (fun _ => rfl) T72 K72 (fun _ => all_is (by kernel_rfl)) (fun _ _ => all_is (by kernel_rfl))
/-- (*whirligig/cpu.core).gone -/
abbrev X51 := T_cpu_core × T_api_Form
abbrev Y51 := T_cpu_core
noncomputable def A51 (x : X51) : List Value := [(.pointer (some ⟨0, 0, none⟩)), (T_api_Form.v x.2)]
noncomputable def J51 (x : X51) : List (Sl × Bool) := [nf (.live ⟨(T_cpu_core.cells x.1), true, none⟩)]
noncomputable def V51 (r : Y51) : Value := (.tuple ⟨[]⟩)
noncomputable def H51 (x : X51) (r : Y51) : List (Sl × Bool) := [nf (.live ⟨(T_cpu_core.cells r), true, none⟩)]
noncomputable def G51 (x : X51) : Gd Go.Proofs.Try.prog Y51 :=
  (.n 4 (.s (x.2.Kind == 38) (.n 2 (.k [(0, false)] c43 (x.1, 2) fun (r7 : Y43) => (.n 5 (Gd.z [(0, false)] (T_cpu_core.mk ({ x.1.Cpu with R := { x.1.Cpu.R with PC := r7 } })))))) (.n 1 (.s (x.2.Kind == 42) (.n 10 (Gd.z [(0, false)] (T_cpu_core.mk ({ x.1.Cpu with R := { x.1.Cpu.R with PC := (IntKind.wrap .u16 (IntKind.wrap .i64 (8 * x.2.X))) } })))) (.n 1 (.s (x.2.Kind == 41) (.n 7 (.s (x.2.Kind == 36) .f (.n 2 (.t [(0, false)] c44 (T_cpu_core.mk ({ x.1.Cpu with Ime := true })) fun (r19 : Y44) => (.n 5 (Gd.z [(0, false)] (T_cpu_core.mk ({ x.1.Cpu with R := { x.1.Cpu.R with PC := r19 }, Ime := true })))))))) (.n 7 (.t [] c18 (x.1.Cpu.R, x.2.X) fun (r16 : Y18) => (.s (!r16) (Gd.z [(0, false)] x.1) (.n 2 (.s (x.2.Kind == 36) (.n 11 (.t [] c72 x.1.Cpu.Lo fun (r32 : Y72) => (.n 7 (Gd.z [(0, false)] (T_cpu_core.mk ({ x.1.Cpu with R := { x.1.Cpu.R with PC := (IntKind.wrap .u16 (x.1.Cpu.R.PC + (IntKind.wrap .u16 r32))) } })))))) (.n 2 (.t [(0, false)] c44 x.1 fun (r23 : Y44) => (.n 5 (Gd.z [(0, false)] (T_cpu_core.mk ({ x.1.Cpu with R := { x.1.Cpu.R with PC := r23 } })))))))))))))))))
theorem K51 (x : X51) : evF Go.Proofs.Try.prog 51 (A51 x) ((J51 x).map (·.1)) (G51 x) = (G51 x).exp fun y => (V51 y, (H51 x y).map (·.1)) := by kernel_rfl
noncomputable def F51 (x : X51) : Option Y51 := (G51 x).run
@[reducible] noncomputable def c51 : Con Go.Proofs.Try.prog := Con.of mixed 51 false A51 J51 V51 H51 G51 F51 (fun _ => rfl) K51 (fun _ => all_is (by kernel_rfl)) (fun _ _ => all_is (by kernel_rfl))
/-- whirligig/alu.Do -/
abbrev X73 := Int × Int × Int × T_api_Flags
abbrev Y73 := Int × T_api_Flags
noncomputable def A73 (x : X73) : List Value := [(.int .i64 x.1), (.int .u8 x.2.1), (.int .u8 x.2.2.1), (T_api_Flags.v x.2.2.2)]
noncomputable def J73 (x : X73) : List (Sl × Bool) := []
noncomputable def V73 (r : Y73) : Value := (.tuple ⟨[(.int .u8 r.1), (T_api_Flags.v r.2)]⟩)
noncomputable def H73 (x : X73) (r : Y73) : List (Sl × Bool) := J73 x
noncomputable def G73 (x : X73) : Gd Go.Proofs.Try.prog Y73 :=
  (.n 7 (.s ((bits .and .i64 x.1 7) == 1) (.n 1 (.s x.2.2.2.C (.n 4 (.t [] c95 (x.2.1, x.2.2.1, 1) fun (r14 : Y95) => (.n 4 (Gd.z [] (r14.1, r14.2))))) (.n 3 (.t [] c95 (x.2.1, x.2.2.1, 0) fun (r13 : Y95) => (.n 4 (Gd.z [] (r13.1, r13.2))))))) (.n 1 (.s ((bits .and .i64 x.1 7) == 0) (.n 3 (.t [] c95 (x.2.1, x.2.2.1, 0) fun (r13 : Y95) => (.n 4 (Gd.z [] (r13.1, r13.2))))) (.n 1 (.s ((bits .and .i64 x.1 7) == 3) (.n 1 (.s x.2.2.2.C (.n 4 (.t [] c96 (x.2.1, x.2.2.1, 1) fun (r18 : Y96) => (.n 4 (Gd.z [] (r18.1, r18.2))))) (.n 3 (.t [] c96 (x.2.1, x.2.2.1, 0) fun (r17 : Y96) => (.n 4 (Gd.z [] (r17.1, r17.2))))))) (.n 1 (.s ((bits .and .i64 x.1 7) == 2) (.n 3 (.t [] c96 (x.2.1, x.2.2.1, 0) fun (r17 : Y96) => (.n 4 (Gd.z [] (r17.1, r17.2))))) (.n 1 (.s ((bits .and .i64 x.1 7) == 7) (.n 2 (.t [] c96 (x.2.1, x.2.2.1, 0) fun (r18 : Y96) => (.n 10 (Gd.z [] (x.2.1, r18.2))))) (.n 1 (.s ((bits .and .i64 x.1 7) == 4) (.n 10 (Gd.z [] ((bits .and .u8 x.2.1 x.2.2.1), (T_api_Flags.mk ((bits .and .u8 x.2.1 x.2.2.1) == 0) false true false)))) (.n 1 (.s ((bits .and .i64 x.1 7) == 5) (.n 9 (Gd.z [] ((bits .xor .u8 x.2.1 x.2.2.1), (T_api_Flags.mk (x.2.1 == x.2.2.1) false false false)))) (.n 10 (Gd.z [] ((bits .or .u8 x.2.1 x.2.2.1), (T_api_Flags.mk ((bits .or .u8 x.2.1 x.2.2.1) == 0) false false false))))))))))))))))))
theorem K73 (x : X73) : evF Go.Proofs.Try.prog 73 (A73 x) ((J73 x).map (·.1)) (G73 x) = (G73 x).exp fun y => (V73 y, (H73 x y).map (·.1)) := by kernel_rfl
noncomputable def f73 (x : X73) : Y73 := (G73 x).val (0, (T_api_Flags.mk false false false false))
theorem T73 (x : X73) : (G73 x).tot = true := by kernel_rfl
@[reducible] noncomputable def c73 : ConT Go.Proofs.Try.prog := ConT.of mixed 73 true A73 J73 V73 H73 G73 (0, (T_api_Flags.mk false false false false)) f73 (fun _ => rfl) T73 K73 (fun _ => all_is (by kernel_rfl)) (fun _ _ => all_is (by kernel_rfl))
/-- whirligig/alu.Byte -/
abbrev X107 := T_api_Flags
abbrev Y107 := Int
noncomputable def A107 (x : X107) : List Value := [(T_api_Flags.v x)]
noncomputable def J107 (x : X107) : List (Sl × Bool) := []
noncomputable def V107 (r : Y107) : Value := (.int .u8 r)
noncomputable def H107 (x : X107) (r : Y107) : List (Sl × Bool) := J107 x
noncomputable def G107 (x : X107) : Gd Go.Proofs.Try.prog Y107 :=
  (.n 22 (.s x.Z (.n 12 (.s x.N (.n 12 (.s x.H (.n 12 (.s x.C (.n 10 (Gd.z [] 240)) (.n 5 (Gd.z [] 224)))) (.n 7 (.s x.C (.n 10 (Gd.z [] 208)) (.n 5 (Gd.z [] 192)))))) (.n 7 (.s x.H (.n 12 (.s x.C (.n 10 (Gd.z [] 176)) (.n 5 (Gd.z [] 160)))) (.n 7 (.s x.C (.n 10 (Gd.z [] 144)) (.n 5 (Gd.z [] 128)))))))) (.n 7 (.s x.N (.n 12 (.s x.H (.n 12 (.s x.C (.n 10 (Gd.z [] 112)) (.n 5 (Gd.z [] 96)))) (.n 7 (.s x.C (.n 10 (Gd.z [] 80)) (.n 5 (Gd.z [] 64)))))) (.n 7 (.s x.H (.n 12 (.s x.C (.n 10 (Gd.z [] 48)) (.n 5 (Gd.z [] 32)))) (.n 7 (.s x.C (.n 10 (Gd.z [] 16)) (.n 5 (Gd.z [] 0))))))))))
theorem K107 (x : X107) : evF Go.Proofs.Try.prog 107 (A107 x) ((J107 x).map (·.1)) (G107 x) = (G107 x).exp fun y => (V107 y, (H107 x y).map (·.1)) := by kernel_rfl
noncomputable def f107 (x : X107) : Y107 := (G107 x).val 0
theorem T107 (x : X107) : (G107 x).tot = true := by kernel_rfl
@[reducible] noncomputable def c107 : ConT Go.Proofs.Try.prog := ConT.of mixed 107 true A107 J107 V107 H107 G107 0 f107 (fun _ => rfl) T107 K107 (fun _ => all_is (by kernel_rfl)) (fun _ _ => all_is (by kernel_rfl))
/-- whirligig/regs.WithFlags -/
abbrev X81 := T_api_Regs × T_api_Flags
abbrev Y81 := T_api_Regs
noncomputable def A81 (x : X81) : List Value := [(T_api_Regs.v x.1), (T_api_Flags.v x.2)]
noncomputable def J81 (x : X81) : List (Sl × Bool) := []
noncomputable def V81 (r : Y81) : Value := (T_api_Regs.v r)
noncomputable def H81 (x : X81) (r : Y81) : List (Sl × Bool) := J81 x
noncomputable def G81 (x : X81) : Gd Go.Proofs.Try.prog Y81 :=
  (.n 4 (.t [] c107 x.2 fun (r4 : Y107) => (.n 4 (Gd.z [] ({ x.1 with F := r4 })))))
theorem K81 (x : X81) : evF Go.Proofs.Try.prog 81 (A81 x) ((J81 x).map (·.1)) (G81 x) = (G81 x).exp fun y => (V81 y, (H81 x y).map (·.1)) := by kernel_rfl
noncomputable def f81 (x : X81) : Y81 := (G81 x).val (T_api_Regs.mk 0 0 0 0 0 0 0 0 0 0)
theorem T81 (x : X81) : (G81 x).tot = true := by kernel_rfl
@[reducible] noncomputable def c81 : ConT Go.Proofs.Try.prog := ConT.of mixed 81 true A81 J81 V81 H81 G81 (T_api_Regs.mk 0 0 0 0 0 0 0 0 0 0) f81 (fun _ => rfl) T81 K81 (fun _ => all_is (by kernel_rfl)) (fun _ _ => all_is (by kernel_rfl))
/-- whirligig/word.Bit -/
abbrev X104 := Int × Int
abbrev Y104 := Bool
noncomputable def A104 (x : X104) : List Value := [(.int .u8 x.1), (.int .i64 x.2)]
noncomputable def J104 (x : X104) : List (Sl × Bool) := []
noncomputable def V104 (r : Y104) : Value := (.bool r)
noncomputable def H104 (x : X104) (r : Y104) : List (Sl × Bool) := J104 x
noncomputable def G104 (x : X104) : Gd Go.Proofs.Try.prog Y104 :=
  (.n 3 (.s (decide (x.2 ≥ 0)) (.n 3 (.s (decide (x.2 < 8)) (.n 2 (Gd.q x.2 (.n 4 (Gd.z [] ((bits .and .u8 (Int.fdiv x.1 (2 ^ (min (Int.toNat x.2) (IntKind.bits .u8)))) 1) == 1))))) (.n 2 (Gd.z [] false)))) (.n 4 (Gd.z [] false))))
theorem K104 (x : X104) : evF Go.Proofs.Try.prog 104 (A104 x) ((J104 x).map (·.1)) (G104 x) = (G104 x).exp fun y => (V104 y, (H104 x y).map (·.1)) := by kernel_rfl
noncomputable def F104 (x : X104) : Option Y104 := (G104 x).run
@[reducible] noncomputable def c104 : Con Go.Proofs.Try.prog := Con.of mixed 104 true A104 J104 V104 H104 G104 F104 (fun _ => rfl) K104 (fun _ => all_is (by kernel_rfl)) (fun _ _ => all_is (by kernel_rfl))
/-- whirligig/shift.Test -/
abbrev X74 := Int × Int × T_api_Flags
abbrev Y74 := T_api_Flags
noncomputable def A74 (x : X74) : List Value := [(.int .i64 x.1), (.int .u8 x.2.1), (T_api_Flags.v x.2.2)]
noncomputable def J74 (x : X74) : List (Sl × Bool) := []
noncomputable def V74 (r : Y74) : Value := (T_api_Flags.v r)
noncomputable def H74 (x : X74) (r : Y74) : List (Sl × Bool) := J74 x
noncomputable def G74 (x : X74) : Gd Go.Proofs.Try.prog Y74 :=
  (.n 5 (.k [] c104 (x.2.1, (bits .and .i64 x.1 7)) fun (r5 : Y104) => (.n 5 (Gd.z [] (T_api_Flags.mk (!r5) false true x.2.2.C)))))
theorem K74 (x : X74) : evF Go.Proofs.Try.prog 74 (A74 x) ((J74 x).map (·.1)) (G74 x) = (G74 x).exp fun y => (V74 y, (H74 x y).map (·.1)) := by kernel_rfl
noncomputable def F74 (x : X74) : Option Y74 := (G74 x).run
@[reducible] noncomputable def c74 : Con Go.Proofs.Try.prog := Con.of mixed 74 true A74 J74 V74 H74 G74 F74 (fun _ => rfl) K74 (fun _ => all_is (by kernel_rfl)) (fun _ _ => all_is (by kernel_rfl))
/-- whirligig/shift.Fast -/
abbrev X75 := Int × Int × T_api_Flags
abbrev Y75 := Int × T_api_Flags
noncomputable def A75 (x : X75) : List Value := [(.int .i64 x.1), (.int .u8 x.2.1), (T_api_Flags.v x.2.2)]
noncomputable def J75 (x : X75) : List (Sl × Bool) := []
noncomputable def V75 (r : Y75) : Value := (.tuple ⟨[(.int .u8 r.1), (T_api_Flags.v r.2)]⟩)
noncomputable def H75 (x : X75) (r : Y75) : List (Sl × Bool) := J75 x
noncomputable def G75 (x : X75) : Gd Go.Proofs.Try.prog Y75 :=
  (.n 7 (.k [] c66 ((bits .and .i64 x.1 3), x.2.1, x.2.2) fun (r7 : Y66) => (.n 12 (Gd.z [] (r7.1, { r7.2 with Z := false })))))
theorem K75 (x : X75) : evF Go.Proofs.Try.prog 75 (A75 x) ((J75 x).map (·.1)) (G75 x) = (G75 x).exp fun y => (V75 y, (H75 x y).map (·.1)) := by kernel_rfl
noncomputable def F75 (x : X75) : Option Y75 := (G75 x).run
@[reducible] noncomputable def c75 : Con Go.Proofs.Try.prog := Con.of mixed 75 true A75 J75 V75 H75 G75 F75 (fun _ => rfl) K75 (fun _ => all_is (by kernel_rfl)) (fun _ _ => all_is (by kernel_rfl))
/-- whirligig/alu.Daa -/
abbrev X76 := Int × T_api_Flags
abbrev Y76 := Int × T_api_Flags
noncomputable def A76 (x : X76) : List Value := [(.int .u8 x.1), (T_api_Flags.v x.2)]
noncomputable def J76 (x : X76) : List (Sl × Bool) := []
noncomputable def V76 (r : Y76) : Value := (.tuple ⟨[(.int .u8 r.1), (T_api_Flags.v r.2)]⟩)
noncomputable def H76 (x : X76) (r : Y76) : List (Sl × Bool) := J76 x
noncomputable def G76 (x : X76) : Gd Go.Proofs.Try.prog Y76 :=
  (.n 6 (.s x.2.H (.n 4 (.s x.2.C (.n 7 (.s x.2.N (.n 14 (Gd.z [] ((IntKind.wrap .u8 (x.1 - 102)), (T_api_Flags.mk ((IntKind.wrap .u8 (x.1 - 102)) == 0) x.2.N false true)))) (.n 14 (Gd.z [] ((IntKind.wrap .u8 (x.1 + 102)), (T_api_Flags.mk ((IntKind.wrap .u8 (x.1 + 102)) == 0) x.2.N false true)))))) (.n 3 (.s (!x.2.N) (.n 3 (.s (decide (x.1 > 153)) (.n 6 (.s x.2.N (.n 14 (Gd.z [] ((IntKind.wrap .u8 (x.1 - 102)), (T_api_Flags.mk ((IntKind.wrap .u8 (x.1 - 102)) == 0) x.2.N false true)))) (.n 14 (Gd.z [] ((IntKind.wrap .u8 (x.1 + 102)), (T_api_Flags.mk ((IntKind.wrap .u8 (x.1 + 102)) == 0) x.2.N false true)))))) (.n 1 (.s x.2.N (.n 14 (Gd.z [] ((IntKind.wrap .u8 (x.1 - 6)), { x.2 with Z := ((IntKind.wrap .u8 (x.1 - 6)) == 0), H := false }))) (.n 14 (Gd.z [] ((IntKind.wrap .u8 (x.1 + 6)), { x.2 with Z := ((IntKind.wrap .u8 (x.1 + 6)) == 0), H := false }))))))) (.n 3 (.s x.2.N (.n 14 (Gd.z [] ((IntKind.wrap .u8 (x.1 - 6)), { x.2 with Z := ((IntKind.wrap .u8 (x.1 - 6)) == 0), H := false }))) (.n 14 (Gd.z [] ((IntKind.wrap .u8 (x.1 + 6)), { x.2 with Z := ((IntKind.wrap .u8 (x.1 + 6)) == 0), H := false }))))))))) (.n 3 (.s (!x.2.N) (.n 4 (.s (decide ((bits .and .u8 x.1 15) > 9)) (.n 3 (.s x.2.C (.n 7 (.s x.2.N (.n 14 (Gd.z [] ((IntKind.wrap .u8 (x.1 - 102)), (T_api_Flags.mk ((IntKind.wrap .u8 (x.1 - 102)) == 0) x.2.N false true)))) (.n 14 (Gd.z [] ((IntKind.wrap .u8 (x.1 + 102)), (T_api_Flags.mk ((IntKind.wrap .u8 (x.1 + 102)) == 0) x.2.N false true)))))) (.n 3 (.s (!x.2.N) (.n 3 (.s (decide (x.1 > 153)) (.n 6 (.s x.2.N (.n 14 (Gd.z [] ((IntKind.wrap .u8 (x.1 - 102)), (T_api_Flags.mk ((IntKind.wrap .u8 (x.1 - 102)) == 0) x.2.N false true)))) (.n 14 (Gd.z [] ((IntKind.wrap .u8 (x.1 + 102)), (T_api_Flags.mk ((IntKind.wrap .u8 (x.1 + 102)) == 0) x.2.N false true)))))) (.n 1 (.s x.2.N (.n 14 (Gd.z [] ((IntKind.wrap .u8 (x.1 - 6)), { x.2 with Z := ((IntKind.wrap .u8 (x.1 - 6)) == 0), H := false }))) (.n 14 (Gd.z [] ((IntKind.wrap .u8 (x.1 + 6)), { x.2 with Z := ((IntKind.wrap .u8 (x.1 + 6)) == 0), H := false }))))))) (.n 3 (.s x.2.N (.n 14 (Gd.z [] ((IntKind.wrap .u8 (x.1 - 6)), { x.2 with Z := ((IntKind.wrap .u8 (x.1 - 6)) == 0), H := false }))) (.n 14 (Gd.z [] ((IntKind.wrap .u8 (x.1 + 6)), { x.2 with Z := ((IntKind.wrap .u8 (x.1 + 6)) == 0), H := false }))))))))) (.n 2 (.s x.2.C (.n 7 (.s x.2.N (.n 14 (Gd.z [] ((IntKind.wrap .u8 (x.1 - 96)), (T_api_Flags.mk ((IntKind.wrap .u8 (x.1 - 96)) == 0) x.2.N false true)))) (.n 14 (Gd.z [] ((IntKind.wrap .u8 (x.1 + 96)), (T_api_Flags.mk ((IntKind.wrap .u8 (x.1 + 96)) == 0) x.2.N false true)))))) (.n 3 (.s (!x.2.N) (.n 3 (.s (decide (x.1 > 153)) (.n 6 (.s x.2.N (.n 14 (Gd.z [] ((IntKind.wrap .u8 (x.1 - 96)), (T_api_Flags.mk ((IntKind.wrap .u8 (x.1 - 96)) == 0) x.2.N false true)))) (.n 14 (Gd.z [] ((IntKind.wrap .u8 (x.1 + 96)), (T_api_Flags.mk ((IntKind.wrap .u8 (x.1 + 96)) == 0) x.2.N false true)))))) (.n 1 (.s x.2.N (.n 14 (Gd.z [] ((IntKind.wrap .u8 (x.1 - 0)), { x.2 with Z := ((IntKind.wrap .u8 (x.1 - 0)) == 0), H := false }))) (.n 14 (Gd.z [] ((IntKind.wrap .u8 (x.1 + 0)), { x.2 with Z := ((IntKind.wrap .u8 (x.1 + 0)) == 0), H := false }))))))) (.n 3 (.s x.2.N (.n 14 (Gd.z [] ((IntKind.wrap .u8 (x.1 - 0)), { x.2 with Z := ((IntKind.wrap .u8 (x.1 - 0)) == 0), H := false }))) (.n 14 (Gd.z [] ((IntKind.wrap .u8 (x.1 + 0)), { x.2 with Z := ((IntKind.wrap .u8 (x.1 + 0)) == 0), H := false }))))))))))) (.n 4 (.s x.2.C (.n 7 (.s x.2.N (.n 14 (Gd.z [] ((IntKind.wrap .u8 (x.1 - 96)), (T_api_Flags.mk ((IntKind.wrap .u8 (x.1 - 96)) == 0) x.2.N false true)))) (.n 14 (Gd.z [] ((IntKind.wrap .u8 (x.1 + 96)), (T_api_Flags.mk ((IntKind.wrap .u8 (x.1 + 96)) == 0) x.2.N false true)))))) (.n 3 (.s (!x.2.N) (.n 3 (.s (decide (x.1 > 153)) (.n 6 (.s x.2.N (.n 14 (Gd.z [] ((IntKind.wrap .u8 (x.1 - 96)), (T_api_Flags.mk ((IntKind.wrap .u8 (x.1 - 96)) == 0) x.2.N false true)))) (.n 14 (Gd.z [] ((IntKind.wrap .u8 (x.1 + 96)), (T_api_Flags.mk ((IntKind.wrap .u8 (x.1 + 96)) == 0) x.2.N false true)))))) (.n 1 (.s x.2.N (.n 14 (Gd.z [] ((IntKind.wrap .u8 (x.1 - 0)), { x.2 with Z := ((IntKind.wrap .u8 (x.1 - 0)) == 0), H := false }))) (.n 14 (Gd.z [] ((IntKind.wrap .u8 (x.1 + 0)), { x.2 with Z := ((IntKind.wrap .u8 (x.1 + 0)) == 0), H := false }))))))) (.n 3 (.s x.2.N (.n 14 (Gd.z [] ((IntKind.wrap .u8 (x.1 - 0)), { x.2 with Z := ((IntKind.wrap .u8 (x.1 - 0)) == 0), H := false }))) (.n 14 (Gd.z [] ((IntKind.wrap .u8 (x.1 + 0)), { x.2 with Z := ((IntKind.wrap .u8 (x.1 + 0)) == 0), H := false })))))))))))))
theorem K76 (x : X76) : evF Go.Proofs.Try.prog 76 (A76 x) ((J76 x).map (·.1)) (G76 x) = (G76 x).exp fun y => (V76 y, (H76 x y).map (·.1)) := by kernel_rfl
noncomputable def f76 (x : X76) : Y76 := (G76 x).val (0, (T_api_Flags.mk false false false false))
theorem T76 (x : X76) : (G76 x).tot = true := by kernel_rfl
@[reducible] noncomputable def c76 : ConT Go.Proofs.Try.prog := ConT.of mixed 76 true A76 J76 V76 H76 G76 (0, (T_api_Flags.mk false false false false)) f76 (fun _ => rfl) T76 K76 (fun _ => all_is (by kernel_rfl)) (fun _ _ => all_is (by kernel_rfl))
/-- whirligig/alu.Cpl -/
abbrev X77 := Int × T_api_Flags
abbrev Y77 := Int × T_api_Flags
noncomputable def A77 (x : X77) : List Value := [(.int .u8 x.1), (T_api_Flags.v x.2)]
noncomputable def J77 (x : X77) : List (Sl × Bool) := []
noncomputable def V77 (r : Y77) : Value := (.tuple ⟨[(.int .u8 r.1), (T_api_Flags.v r.2)]⟩)
noncomputable def H77 (x : X77) (r : Y77) : List (Sl × Bool) := J77 x
noncomputable def G77 (x : X77) : Gd Go.Proofs.Try.prog Y77 :=
  (.n 12 (Gd.z [] ((bits .xor .u8 255 x.1), { x.2 with N := true, H := true })))
theorem K77 (x : X77) : evF Go.Proofs.Try.prog 77 (A77 x) ((J77 x).map (·.1)) (G77 x) = (G77 x).exp fun y => (V77 y, (H77 x y).map (·.1)) := by kernel_rfl
noncomputable def f77 (x : X77) : Y77 := (G77 x).val (0, (T_api_Flags.mk false false false false))
theorem T77 (x : X77) : (G77 x).tot = true := by kernel_rfl
@[reducible] noncomputable def c77 : ConT Go.Proofs.Try.prog := ConT.of mixed 77 true A77 J77 V77 H77 G77 (0, (T_api_Flags.mk false false false false)) f77 (fun _ => rfl) T77 K77 (fun _ => all_is (by kernel_rfl)) (fun _ _ => all_is (by kernel_rfl))
/-- whirligig/alu.Scf -/
abbrev X78 := T_api_Flags
abbrev Y78 := T_api_Flags
noncomputable def A78 (x : X78) : List Value := [(T_api_Flags.v x)]
noncomputable def J78 (x : X78) : List (Sl × Bool) := []
noncomputable def V78 (r : Y78) : Value := (T_api_Flags.v r)
noncomputable def H78 (x : X78) (r : Y78) : List (Sl × Bool) := J78 x
noncomputable def G78 (x : X78) : Gd Go.Proofs.Try.prog Y78 :=
  (.n 6 (Gd.z [] (T_api_Flags.mk x.Z false false true)))
theorem K78 (x : X78) : evF Go.Proofs.Try.prog 78 (A78 x) ((J78 x).map (·.1)) (G78 x) = (G78 x).exp fun y => (V78 y, (H78 x y).map (·.1)) := by kernel_rfl
noncomputable def f78 (x : X78) : Y78 := (G78 x).val (T_api_Flags.mk false false false false)
theorem T78 (x : X78) : (G78 x).tot = true := by kernel_rfl
@[reducible] noncomputable def c78 : ConT Go.Proofs.Try.prog := ConT.of mixed 78 true A78 J78 V78 H78 G78 (T_api_Flags.mk false false false false) f78 (fun _ => rfl) T78 K78 (fun _ => all_is (by kernel_rfl)) (fun _ _ => all_is (by kernel_rfl))
/-- whirligig/alu.Ccf -/
abbrev X79 := T_api_Flags
abbrev Y79 := T_api_Flags
noncomputable def A79 (x : X79) : List Value := [(T_api_Flags.v x)]
noncomputable def J79 (x : X79) : List (Sl × Bool) := []
noncomputable def V79 (r : Y79) : Value := (T_api_Flags.v r)
noncomputable def H79 (x : X79) (r : Y79) : List (Sl × Bool) := J79 x
noncomputable def G79 (x : X79) : Gd Go.Proofs.Try.prog Y79 :=
  (.n 9 (Gd.z [] (T_api_Flags.mk x.Z false false (!x.C))))
theorem K79 (x : X79) : evF Go.Proofs.Try.prog 79 (A79 x) ((J79 x).map (·.1)) (G79 x) = (G79 x).exp fun y => (V79 y, (H79 x y).map (·.1)) := by kernel_rfl
noncomputable def f79 (x : X79) : Y79 := (G79 x).val (T_api_Flags.mk false false false false)
theorem T79 (x : X79) : (G79 x).tot = true := by kernel_rfl
@[reducible] noncomputable def c79 : ConT Go.Proofs.Try.prog := ConT.of mixed 79 true A79 J79 V79 H79 G79 (T_api_Flags.mk false false false false) f79 (fun _ => rfl) T79 K79 (fun _ => all_is (by kernel_rfl)) (fun _ _ => all_is (by kernel_rfl))
/-- whirligig/alu.AddWords -/
abbrev X105 := Int × Int × T_api_Flags
abbrev Y105 := Int × T_api_Flags
noncomputable def A105 (x : X105) : List Value := [(.int .u16 x.1), (.int .u16 x.2.1), (T_api_Flags.v x.2.2)]
noncomputable def J105 (x : X105) : List (Sl × Bool) := []
noncomputable def V105 (r : Y105) : Value := (.tuple ⟨[(.int .u16 r.1), (T_api_Flags.v r.2)]⟩)
noncomputable def H105 (x : X105) (r : Y105) : List (Sl × Bool) := J105 x
noncomputable def G105 (x : X105) : Gd Go.Proofs.Try.prog Y105 :=
  (.n 28 (Gd.z [] ((IntKind.wrap .u16 (IntKind.wrap .u32 ((IntKind.wrap .u32 x.1) + (IntKind.wrap .u32 x.2.1)))), (T_api_Flags.mk x.2.2.Z false ((bits .and .u16 (bits .xor .u16 (bits .xor .u16 x.1 x.2.1) (IntKind.wrap .u16 (IntKind.wrap .u32 ((IntKind.wrap .u32 x.1) + (IntKind.wrap .u32 x.2.1))))) 4096) != 0) ((Int.fdiv (IntKind.wrap .u32 ((IntKind.wrap .u32 x.1) + (IntKind.wrap .u32 x.2.1))) (2 ^ 16)) != 0)))))
theorem K105 (x : X105) : evF Go.Proofs.Try.prog 105 (A105 x) ((J105 x).map (·.1)) (G105 x) = (G105 x).exp fun y => (V105 y, (H105 x y).map (·.1)) := by kernel_rfl
noncomputable def f105 (x : X105) : Y105 := (G105 x).val (0, (T_api_Flags.mk false false false false))
theorem T105 (x : X105) : (G105 x).tot = true := by kernel_rfl
@[reducible] noncomputable def c105 : ConT Go.Proofs.Try.prog := ConT.of mixed 105 true A105 J105 V105 H105 G105 (0, (T_api_Flags.mk false false false false)) f105 (fun _ => rfl) T105 K105 (fun _ => all_is (by kernel_rfl)) (fun _ _ => all_is (by kernel_rfl))
/-- whirligig/alu.AddSigned -/
abbrev X106 := Int × Int
abbrev Y106 := Int × T_api_Flags
noncomputable def A106 (x : X106) : List Value := [(.int .u16 x.1), (.int .u8 x.2)]
noncomputable def J106 (x : X106) : List (Sl × Bool) := []
noncomputable def V106 (r : Y106) : Value := (.tuple ⟨[(.int .u16 r.1), (T_api_Flags.v r.2)]⟩)
noncomputable def H106 (x : X106) (r : Y106) : List (Sl × Bool) := J106 x
noncomputable def G106 (x : X106) : Gd Go.Proofs.Try.prog Y106 :=
  (.n 5 (.t [] c95 ((IntKind.wrap .u8 x.1), x.2, 0) fun (r5 : Y95) => (.n 19 (Gd.z [] ((IntKind.wrap .u16 (x.1 + (IntKind.wrap .u16 (IntKind.wrap .i16 (IntKind.wrap .i8 x.2))))), { r5.2 with Z := false, N := false })))))
theorem K106 (x : X106) : evF Go.Proofs.Try.prog 106 (A106 x) ((J106 x).map (·.1)) (G106 x) = (G106 x).exp fun y => (V106 y, (H106 x y).map (·.1)) := by kernel_rfl
noncomputable def f106 (x : X106) : Y106 := (G106 x).val (0, (T_api_Flags.mk false false false false))
theorem T106 (x : X106) : (G106 x).tot = true := by kernel_rfl
@[reducible] noncomputable def c106 : ConT Go.Proofs.Try.prog := ConT.of mixed 106 true A106 J106 V106 H106 G106 (0, (T_api_Flags.mk false false false false)) f106 (fun _ => rfl) T106 K106 (fun _ => all_is (by kernel_rfl)) (fun _ _ => all_is (by kernel_rfl))
/-- (*whirligig/cpu.core).wide -/
abbrev X80 := T_cpu_core × T_api_Form × T_api_Flags
abbrev Y80 := Bool × T_cpu_core × T_api_Flags
noncomputable def A80 (x : X80) : List Value := [(.pointer (some ⟨0, 0, none⟩)), (T_api_Form.v x.2.1), (.pointer (some ⟨1, 0, none⟩))]
noncomputable def J80 (x : X80) : List (Sl × Bool) := [nf (.live ⟨(T_cpu_core.cells x.1), true, none⟩), nf (.live ⟨(T_api_Flags.cells x.2.2), true, none⟩)]
noncomputable def V80 (r : Y80) : Value := (.bool r.1)
noncomputable def H80 (x : X80) (r : Y80) : List (Sl × Bool) := [nf (.live ⟨(T_cpu_core.cells r.2.1), true, none⟩), nf (.live ⟨(T_api_Flags.cells r.2.2), true, none⟩)]
noncomputable def G80 (x : X80) : Gd Go.Proofs.Try.prog Y80 :=
  (.n 6 (.s (x.2.1.Kind == 27) (.n 6 (.k [(0, false)] c43 (x.1, x.2.1.X) fun (r13 : Y43) => (.n 1 (.k [(0, false)] c49 (x.1, x.2.1.X, (IntKind.wrap .u16 (r13 + 1))) fun (r15 : Y49) => (.n 1 (Gd.z [(0, false), (1, false)] (false, r15, x.2.2))))))) (.n 1 (.s (x.2.1.Kind == 28) (.n 6 (.k [(0, false)] c43 (x.1, x.2.1.X) fun (r15 : Y43) => (.n 1 (.k [(0, false)] c49 (x.1, x.2.1.X, (IntKind.wrap .u16 (r15 - 1))) fun (r17 : Y49) => (.n 1 (Gd.z [(0, false), (1, false)] (false, r17, x.2.2))))))) (.n 1 (.s (x.2.1.Kind == 29) (.n 2 (.k [(0, false)] c43 (x.1, 2) fun (r13 : Y43) => (.n 3 (.k [(0, false)] c43 (x.1, x.2.1.X) fun (r17 : Y43) => (.n 3 (.t [] c105 (r13, r17, x.2.2) fun (r21 : Y105) => (.n 8 (.k [(0, false)] c49 (x.1, 2, r21.1) fun (r30 : Y49) => (.n 1 (Gd.z [(0, false), (1, false)] (true, r30, r21.2))))))))))) (.n 1 (.s (x.2.1.Kind == 20) (.n 12 (.t [] c106 (x.1.Cpu.R.SP, x.1.Cpu.Lo) fun (r25 : Y106) => (.n 8 (.k [(0, false)] c49 (x.1, 2, r25.1) fun (r34 : Y49) => (.n 1 (Gd.z [(0, false), (1, false)] (true, r34, r25.2))))))) (.n 1 (.s (x.2.1.Kind == 30) (.n 13 (.t [] c106 (x.1.Cpu.R.SP, x.1.Cpu.Lo) fun (r28 : Y106) => (.n 11 (Gd.z [(0, false), (1, false)] (true, (T_cpu_core.mk ({ x.1.Cpu with R := { x.1.Cpu.R with SP := r28.1 } })), r28.2))))) (.n 1 (Gd.z [(0, false), (1, false)] (false, x.1, x.2.2)))))))))))))
theorem K80 (x : X80) : evF Go.Proofs.Try.prog 80 (A80 x) ((J80 x).map (·.1)) (G80 x) = (G80 x).exp fun y => (V80 y, (H80 x y).map (·.1)) := by kernel_rfl
noncomputable def F80 (x : X80) : Option Y80 := (G80 x).run
@[reducible] noncomputable def c80 : Con Go.Proofs.Try.prog := Con.of mixed 80 false A80 J80 V80 H80 G80 F80 (fun _ => rfl) K80 (fun _ => all_is (by kernel_rfl)) (fun _ _ => all_is (by kernel_rfl))
/-- (*whirligig/cpu.core).reckoned -/
abbrev X52 := T_cpu_core × T_api_Form
abbrev Y52 := T_cpu_core
noncomputable def A52 (x : X52) : List Value := [(.pointer (some ⟨0, 0, none⟩)), (T_api_Form.v x.2)]
noncomputable def J52 (x : X52) : List (Sl × Bool) := [nf (.live ⟨(T_cpu_core.cells x.1), true, none⟩)]
noncomputable def V52 (r : Y52) : Value := (.tuple ⟨[]⟩)
noncomputable def H52 (x : X52) (r : Y52) : List (Sl × Bool) := [nf (.live ⟨(T_cpu_core.cells r), true, none⟩)]
noncomputable def G52 (x : X52) : Gd Go.Proofs.Try.prog Y52 :=
  (.n 6 (.t [] c37 x.1.Cpu.R fun (r6 : Y37) => (.n 5 (.s (x.2.Kind == 23) (.n 12 (.k [(0, false)] c46 (x.1, x.2.Y) fun (r25 : Y46) => (.n 1 (.t [] c73 (x.2.X, x.1.Cpu.R.A, r25, r6) fun (r27 : Y73) => (.n 16 (.t [] c81 ({ x.1.Cpu.R with A := r27.1 }, r27.2) fun (r44 : Y81) => (.n 4 (Gd.z [(0, false)] (T_cpu_core.mk ({ x.1.Cpu with R := r44 })))))))))) (.n 1 (.s (x.2.Kind == 24) (.n 15 (.t [] c73 (x.2.X, x.1.Cpu.R.A, x.1.Cpu.Lo, r6) fun (r30 : Y73) => (.n 16 (.t [] c81 ({ x.1.Cpu.R with A := r30.1 }, r30.2) fun (r47 : Y81) => (.n 4 (Gd.z [(0, false)] (T_cpu_core.mk ({ x.1.Cpu with R := r47 })))))))) (.n 1 (.s (x.2.Kind == 25) (.n 2 (.k [(0, false)] c47 (x.1, x.2) fun (r19 : Y47) => (.n 10 (.k [(0, false)] c71 (x.1, x.2.X, r19.1) fun (r30 : Y71) => (.n 9 (.t [] c81 (r30.Cpu.R, r19.2) fun (r40 : Y81) => (.n 4 (Gd.z [(0, false)] (T_cpu_core.mk ({ r30.Cpu with R := r40 })))))))))) (.n 1 (.s (x.2.Kind == 26) (.n 2 (.k [(0, false)] c47 (x.1, x.2) fun (r21 : Y47) => (.n 10 (.k [(0, false)] c71 (x.1, x.2.X, r21.1) fun (r32 : Y71) => (.n 9 (.t [] c81 (r32.Cpu.R, r21.2) fun (r42 : Y81) => (.n 4 (Gd.z [(0, false)] (T_cpu_core.mk ({ r32.Cpu with R := r42 })))))))))) (.n 1 (.s (x.2.Kind == 43) (.n 2 (.k [(0, false)] c47 (x.1, x.2) fun (r23 : Y47) => (.n 10 (.k [(0, false)] c71 (x.1, x.2.Y, r23.1) fun (r34 : Y71) => (.n 2 (.s (x.2.Kind != 43) (Gd.z [(0, false)] r34) (.n 9 (.t [] c81 (r34.Cpu.R, r23.2) fun (r47 : Y81) => (.n 4 (Gd.z [(0, false)] (T_cpu_core.mk ({ r34.Cpu with R := r47 })))))))))))) (.n 1 (.s (x.2.Kind == 45) (.n 2 (.k [(0, false)] c47 (x.1, x.2) fun (r25 : Y47) => (.n 10 (.k [(0, false)] c71 (x.1, x.2.Y, r25.1) fun (r36 : Y71) => (.n 2 (.s (x.2.Kind != 43) (Gd.z [(0, false)] r36) (.n 9 (.t [] c81 (r36.Cpu.R, r25.2) fun (r49 : Y81) => (.n 4 (Gd.z [(0, false)] (T_cpu_core.mk ({ r36.Cpu with R := r49 })))))))))))) (.n 1 (.s (x.2.Kind == 46) (.n 2 (.k [(0, false)] c47 (x.1, x.2) fun (r27 : Y47) => (.n 10 (.k [(0, false)] c71 (x.1, x.2.Y, r27.1) fun (r38 : Y71) => (.n 2 (.s (x.2.Kind != 43) (Gd.z [(0, false)] r38) (.n 9 (.t [] c81 (r38.Cpu.R, r27.2) fun (r51 : Y81) => (.n 4 (Gd.z [(0, false)] (T_cpu_core.mk ({ r38.Cpu with R := r51 })))))))))))) (.n 1 (.s (x.2.Kind == 44) (.n 5 (.k [(0, false)] c46 (x.1, x.2.Y) fun (r32 : Y46) => (.n 1 (.k [] c74 (x.2.X, r32, r6) fun (r34 : Y74) => (.n 8 (.t [] c81 (x.1.Cpu.R, r34) fun (r43 : Y81) => (.n 4 (Gd.z [(0, false)] (T_cpu_core.mk ({ x.1.Cpu with R := r43 })))))))))) (.n 1 (.s (x.2.Kind == 31) (.n 10 (.k [] c75 (x.2.X, x.1.Cpu.R.A, r6) fun (r39 : Y75) => (.n 16 (.t [] c81 ({ x.1.Cpu.R with A := r39.1 }, r39.2) fun (r56 : Y81) => (.n 4 (Gd.z [(0, false)] (T_cpu_core.mk ({ x.1.Cpu with R := r56 })))))))) (.n 1 (.s (x.2.Kind == 32) (.n 8 (.t [] c76 (x.1.Cpu.R.A, r6) fun (r39 : Y76) => (.n 16 (.t [] c81 ({ x.1.Cpu.R with A := r39.1 }, r39.2) fun (r56 : Y81) => (.n 4 (Gd.z [(0, false)] (T_cpu_core.mk ({ x.1.Cpu with R := r56 })))))))) (.n 1 (.s (x.2.Kind == 33) (.n 8 (.t [] c77 (x.1.Cpu.R.A, r6) fun (r41 : Y77) => (.n 16 (.t [] c81 ({ x.1.Cpu.R with A := r41.1 }, r41.2) fun (r58 : Y81) => (.n 4 (Gd.z [(0, false)] (T_cpu_core.mk ({ x.1.Cpu with R := r58 })))))))) (.n 1 (.s (x.2.Kind == 34) (.n 1 (.t [] c78 r6 fun (r36 : Y78) => (.n 8 (.t [] c81 (x.1.Cpu.R, r36) fun (r45 : Y81) => (.n 4 (Gd.z [(0, false)] (T_cpu_core.mk ({ x.1.Cpu with R := r45 })))))))) (.n 1 (.s (x.2.Kind == 35) (.n 1 (.t [] c79 r6 fun (r38 : Y79) => (.n 8 (.t [] c81 (x.1.Cpu.R, r38) fun (r47 : Y81) => (.n 4 (Gd.z [(0, false)] (T_cpu_core.mk ({ x.1.Cpu with R := r47 })))))))) (.n 2 (.k [(0, false), (2, false)] c80 (x.1, x.2, r6) fun (r39 : Y80) => (.s (!r39.1) (Gd.z [(0, false)] r39.2.1) (.n 7 (.t [] c81 (r39.2.1.Cpu.R, r39.2.2) fun (r48 : Y81) => (.n 4 (Gd.z [(0, false)] (T_cpu_core.mk ({ r39.2.1.Cpu with R := r48 })))))))))))))))))))))))))))))))))))))
theorem K52 (x : X52) : evF Go.Proofs.Try.prog 52 (A52 x) ((J52 x).map (·.1)) (G52 x) = (G52 x).exp fun y => (V52 y, (H52 x y).map (·.1)) := by kernel_rfl
noncomputable def F52 (x : X52) : Option Y52 := (G52 x).run
@[reducible] noncomputable def c52 : Con Go.Proofs.Try.prog := Con.of mixed 52 false A52 J52 V52 H52 G52 F52 (fun _ => rfl) K52 (fun _ => all_is (by kernel_rfl)) (fun _ _ => all_is (by kernel_rfl))
/-- (*whirligig/cpu.core).end -/
abbrev X31 := T_cpu_core × Int
abbrev Y31 := T_cpu_core
noncomputable def A31 (x : X31) : List Value := [(.pointer (some ⟨0, 0, none⟩)), (.int .u8 x.2)]
noncomputable def J31 (x : X31) : List (Sl × Bool) := [nf (.live ⟨(T_cpu_core.cells x.1), true, none⟩)]
noncomputable def V31 (r : Y31) : Value := (.tuple ⟨[]⟩)
noncomputable def H31 (x : X31) (r : Y31) : List (Sl × Bool) := [nf (.live ⟨(T_cpu_core.cells r), true, none⟩)]
noncomputable def G31 (x : X31) : Gd Go.Proofs.Try.prog Y31 :=
  (.n 1 (.k [(0, false)] c45 x.1 fun (r1 : Y45) => (.n 15 (.s (r1.Kind == 7) (.n 2 (.k [(0, false)] c50 ((T_cpu_core.mk ({ x.1.Cpu with Cb := false, Step := 0 })), r1) fun (r20 : Y50) => (Gd.z [(0, false)] r20))) (.n 1 (.s (r1.Kind == 8) (.n 2 (.k [(0, false)] c50 ((T_cpu_core.mk ({ x.1.Cpu with Cb := false, Step := 0 })), r1) fun (r22 : Y50) => (Gd.z [(0, false)] r22))) (.n 1 (.s (r1.Kind == 9) (.n 2 (.k [(0, false)] c50 ((T_cpu_core.mk ({ x.1.Cpu with Cb := false, Step := 0 })), r1) fun (r24 : Y50) => (Gd.z [(0, false)] r24))) (.n 1 (.s (r1.Kind == 11) (.n 2 (.k [(0, false)] c50 ((T_cpu_core.mk ({ x.1.Cpu with Cb := false, Step := 0 })), r1) fun (r26 : Y50) => (Gd.z [(0, false)] r26))) (.n 1 (.s (r1.Kind == 13) (.n 2 (.k [(0, false)] c50 ((T_cpu_core.mk ({ x.1.Cpu with Cb := false, Step := 0 })), r1) fun (r28 : Y50) => (Gd.z [(0, false)] r28))) (.n 1 (.s (r1.Kind == 15) (.n 2 (.k [(0, false)] c50 ((T_cpu_core.mk ({ x.1.Cpu with Cb := false, Step := 0 })), r1) fun (r30 : Y50) => (Gd.z [(0, false)] r30))) (.n 1 (.s (r1.Kind == 17) (.n 2 (.k [(0, false)] c50 ((T_cpu_core.mk ({ x.1.Cpu with Cb := false, Step := 0 })), r1) fun (r32 : Y50) => (Gd.z [(0, false)] r32))) (.n 1 (.s (r1.Kind == 22) (.n 2 (.k [(0, false)] c50 ((T_cpu_core.mk ({ x.1.Cpu with Cb := false, Step := 0 })), r1) fun (r34 : Y50) => (Gd.z [(0, false)] r34))) (.n 1 (.s (r1.Kind == 19) (.n 2 (.k [(0, false)] c50 ((T_cpu_core.mk ({ x.1.Cpu with Cb := false, Step := 0 })), r1) fun (r36 : Y50) => (Gd.z [(0, false)] r36))) (.n 1 (.s (r1.Kind == 36) (.n 2 (.k [(0, false)] c51 ((T_cpu_core.mk ({ x.1.Cpu with Cb := false, Step := 0 })), r1) fun (r38 : Y51) => (Gd.z [(0, false)] r38))) (.n 1 (.s (r1.Kind == 37) (.n 2 (.k [(0, false)] c51 ((T_cpu_core.mk ({ x.1.Cpu with Cb := false, Step := 0 })), r1) fun (r40 : Y51) => (Gd.z [(0, false)] r40))) (.n 1 (.s (r1.Kind == 39) (.n 2 (.k [(0, false)] c51 ((T_cpu_core.mk ({ x.1.Cpu with Cb := false, Step := 0 })), r1) fun (r42 : Y51) => (Gd.z [(0, false)] r42))) (.n 1 (.s (r1.Kind == 40) (.n 2 (.k [(0, false)] c51 ((T_cpu_core.mk ({ x.1.Cpu with Cb := false, Step := 0 })), r1) fun (r44 : Y51) => (Gd.z [(0, false)] r44))) (.n 1 (.s (r1.Kind == 41) (.n 2 (.k [(0, false)] c51 ((T_cpu_core.mk ({ x.1.Cpu with Cb := false, Step := 0 })), r1) fun (r46 : Y51) => (Gd.z [(0, false)] r46))) (.n 1 (.s (r1.Kind == 38) (.n 2 (.k [(0, false)] c51 ((T_cpu_core.mk ({ x.1.Cpu with Cb := false, Step := 0 })), r1) fun (r48 : Y51) => (Gd.z [(0, false)] r48))) (.n 1 (.s (r1.Kind == 42) (.n 2 (.k [(0, false)] c51 ((T_cpu_core.mk ({ x.1.Cpu with Cb := false, Step := 0 })), r1) fun (r50 : Y51) => (Gd.z [(0, false)] r50))) (.n 1 (.s (r1.Kind == 3) (.n 10 (Gd.z [(0, false)] (T_cpu_core.mk ({ x.1.Cpu with Ime := false, Arm := false, Cb := false, Step := 0 })))) (.n 1 (.s (r1.Kind == 4) (.n 5 (Gd.z [(0, false)] (T_cpu_core.mk ({ x.1.Cpu with Arm := true, Cb := false, Step := 0 })))) (.n 1 (.s (r1.Kind == 2) (.n 6 (.s (!x.1.Cpu.Ime) (.n 2 (.s (x.2 != 0) (.n 5 (Gd.z [(0, false)] (T_cpu_core.mk ({ x.1.Cpu with Bug := true, Cb := false, Step := 0 })))) (.n 5 (Gd.z [(0, false)] (T_cpu_core.mk ({ x.1.Cpu with Mode := 1, Cb := false, Step := 0 })))))) (.n 6 (Gd.z [(0, false)] (T_cpu_core.mk ({ x.1.Cpu with Mode := 1, Cb := false, Step := 0 })))))) (.n 1 (.s (r1.Kind == 1) (.n 5 (Gd.z [(0, false)] (T_cpu_core.mk ({ x.1.Cpu with Mode := 2, Cb := false, Step := 0 })))) (.n 1 (.s (r1.Kind == 5) (.n 5 (Gd.z [(0, false)] (T_cpu_core.mk ({ x.1.Cpu with Mode := 3, Cb := false, Step := 0 })))) (.n 2 (.k [(0, false)] c52 ((T_cpu_core.mk ({ x.1.Cpu with Cb := false, Step := 0 })), r1) fun (r60 : Y52) => (Gd.z [(0, false)] r60)))))))))))))))))))))))))))))))))))))))))))))))
theorem K31 (x : X31) : evF Go.Proofs.Try.prog 31 (A31 x) ((J31 x).map (·.1)) (G31 x) = (G31 x).exp fun y => (V31 y, (H31 x y).map (·.1)) := by kernel_rfl
noncomputable def F31 (x : X31) : Option Y31 := (G31 x).run
@[reducible] noncomputable def c31 : Con Go.Proofs.Try.prog := Con.of mixed 31 false A31 J31 V31 H31 G31 F31 (fun _ => rfl) K31 (fun _ => all_is (by kernel_rfl)) (fun _ _ => all_is (by kernel_rfl))
/-- (*whirligig/cpu.core).moved -/
abbrev X30 := T_cpu_core × Int
abbrev Y30 := T_cpu_core
noncomputable def A30 (x : X30) : List Value := [(.pointer (some ⟨0, 0, none⟩)), (.int .u8 x.2)]
noncomputable def J30 (x : X30) : List (Sl × Bool) := [nf (.live ⟨(T_cpu_core.cells x.1), true, none⟩)]
noncomputable def V30 (r : Y30) : Value := (.tuple ⟨[]⟩)
noncomputable def H30 (x : X30) (r : Y30) : List (Sl × Bool) := [nf (.live ⟨(T_cpu_core.cells r), true, none⟩)]
noncomputable def G30 (x : X30) : Gd Go.Proofs.Try.prog Y30 :=
  (.n 1 (.k [(0, false)] c24 x.1 fun (r1 : Y24) => (.n 9 (.s (r1.1.Place == 1) (.n 14 (.s (r1.1.Bus == 1) (.n 2 (.s (r1.1.z_Value == 2) (.n 16 (Gd.z [(0, false)] (T_cpu_core.mk ({ x.1.Cpu with R := { x.1.Cpu.R with PC := (IntKind.wrap .u16 (x.1.Cpu.R.PC + 1)) }, Step := (IntKind.wrap .u8 (x.1.Cpu.Step + 1)), Hi := x.2 })))) (.n 16 (Gd.z [(0, false)] (T_cpu_core.mk ({ x.1.Cpu with R := { x.1.Cpu.R with PC := (IntKind.wrap .u16 (x.1.Cpu.R.PC + 1)) }, Step := (IntKind.wrap .u8 (x.1.Cpu.Step + 1)), Lo := x.2 })))))) (.n 10 (Gd.z [(0, false)] (T_cpu_core.mk ({ x.1.Cpu with R := { x.1.Cpu.R with PC := (IntKind.wrap .u16 (x.1.Cpu.R.PC + 1)) }, Step := (IntKind.wrap .u8 (x.1.Cpu.Step + 1)) })))))) (.n 1 (.s (r1.1.Place == 5) (.n 2 (.k [(0, false)] c43 (x.1, 2) fun (r16 : Y43) => (.n 1 (.k [(0, false)] c49 (x.1, 2, (IntKind.wrap .u16 (r16 + 1))) fun (r18 : Y49) => (.n 2 (.s (r1.1.Bus == 1) (.n 2 (.s (r1.1.z_Value == 2) (.n 16 (Gd.z [(0, false)] (T_cpu_core.mk ({ r18.Cpu with Step := (IntKind.wrap .u8 (r18.Cpu.Step + 1)), Hi := x.2 })))) (.n 16 (Gd.z [(0, false)] (T_cpu_core.mk ({ r18.Cpu with Step := (IntKind.wrap .u8 (r18.Cpu.Step + 1)), Lo := x.2 })))))) (.n 10 (Gd.z [(0, false)] (T_cpu_core.mk ({ r18.Cpu with Step := (IntKind.wrap .u8 (r18.Cpu.Step + 1)) })))))))))) (.n 1 (.s (r1.1.Place == 6) (.n 2 (.k [(0, false)] c43 (x.1, 2) fun (r18 : Y43) => (.n 1 (.k [(0, false)] c49 (x.1, 2, (IntKind.wrap .u16 (r18 - 1))) fun (r20 : Y49) => (.n 2 (.s (r1.1.Bus == 1) (.n 2 (.s (r1.1.z_Value == 2) (.n 16 (Gd.z [(0, false)] (T_cpu_core.mk ({ r20.Cpu with Step := (IntKind.wrap .u8 (r20.Cpu.Step + 1)), Hi := x.2 })))) (.n 16 (Gd.z [(0, false)] (T_cpu_core.mk ({ r20.Cpu with Step := (IntKind.wrap .u8 (r20.Cpu.Step + 1)), Lo := x.2 })))))) (.n 10 (Gd.z [(0, false)] (T_cpu_core.mk ({ r20.Cpu with Step := (IntKind.wrap .u8 (r20.Cpu.Step + 1)) })))))))))) (.n 1 (.s (r1.1.Place == 11) (.n 14 (.s (r1.1.Bus == 1) (.n 2 (.s (r1.1.z_Value == 2) (.n 16 (Gd.z [(0, false)] (T_cpu_core.mk ({ x.1.Cpu with R := { x.1.Cpu.R with SP := (IntKind.wrap .u16 (x.1.Cpu.R.SP - 1)) }, Step := (IntKind.wrap .u8 (x.1.Cpu.Step + 1)), Hi := x.2 })))) (.n 16 (Gd.z [(0, false)] (T_cpu_core.mk ({ x.1.Cpu with R := { x.1.Cpu.R with SP := (IntKind.wrap .u16 (x.1.Cpu.R.SP - 1)) }, Step := (IntKind.wrap .u8 (x.1.Cpu.Step + 1)), Lo := x.2 })))))) (.n 10 (Gd.z [(0, false)] (T_cpu_core.mk ({ x.1.Cpu with R := { x.1.Cpu.R with SP := (IntKind.wrap .u16 (x.1.Cpu.R.SP - 1)) }, Step := (IntKind.wrap .u8 (x.1.Cpu.Step + 1)) })))))) (.n 1 (.s (r1.1.Place == 12) (.n 14 (.s (r1.1.Bus == 1) (.n 2 (.s (r1.1.z_Value == 2) (.n 16 (Gd.z [(0, false)] (T_cpu_core.mk ({ x.1.Cpu with R := { x.1.Cpu.R with SP := (IntKind.wrap .u16 (x.1.Cpu.R.SP + 1)) }, Step := (IntKind.wrap .u8 (x.1.Cpu.Step + 1)), Hi := x.2 })))) (.n 16 (Gd.z [(0, false)] (T_cpu_core.mk ({ x.1.Cpu with R := { x.1.Cpu.R with SP := (IntKind.wrap .u16 (x.1.Cpu.R.SP + 1)) }, Step := (IntKind.wrap .u8 (x.1.Cpu.Step + 1)), Lo := x.2 })))))) (.n 10 (Gd.z [(0, false)] (T_cpu_core.mk ({ x.1.Cpu with R := { x.1.Cpu.R with SP := (IntKind.wrap .u16 (x.1.Cpu.R.SP + 1)) }, Step := (IntKind.wrap .u8 (x.1.Cpu.Step + 1)) })))))) (.n 2 (.s (r1.1.Bus == 1) (.n 2 (.s (r1.1.z_Value == 2) (.n 16 (Gd.z [(0, false)] (T_cpu_core.mk ({ x.1.Cpu with Step := (IntKind.wrap .u8 (x.1.Cpu.Step + 1)), Hi := x.2 })))) (.n 16 (Gd.z [(0, false)] (T_cpu_core.mk ({ x.1.Cpu with Step := (IntKind.wrap .u8 (x.1.Cpu.Step + 1)), Lo := x.2 })))))) (.n 10 (Gd.z [(0, false)] (T_cpu_core.mk ({ x.1.Cpu with Step := (IntKind.wrap .u8 (x.1.Cpu.Step + 1)) }))))))))))))))))))
theorem K30 (x : X30) : evF Go.Proofs.Try.prog 30 (A30 x) ((J30 x).map (·.1)) (G30 x) = (G30 x).exp fun y => (V30 y, (H30 x y).map (·.1)) := by kernel_rfl
noncomputable def F30 (x : X30) : Option Y30 := (G30 x).run
@[reducible] noncomputable def c30 : Con Go.Proofs.Try.prog := Con.of mixed 30 false A30 J30 V30 H30 G30 F30 (fun _ => rfl) K30 (fun _ => all_is (by kernel_rfl)) (fun _ _ => all_is (by kernel_rfl))
/-- whirligig/cpu.Done -/
abbrev X12 := T_api_Cpu × Int × Int
abbrev Y12 := T_api_Cpu
noncomputable def A12 (x : X12) : List Value := [(T_api_Cpu.v x.1), (.int .u8 x.2.1), (.int .u8 x.2.2)]
noncomputable def J12 (x : X12) : List (Sl × Bool) := []
noncomputable def V12 (r : Y12) : Value := (T_api_Cpu.v r)
noncomputable def H12 (x : X12) (r : Y12) : List (Sl × Bool) := J12 x
noncomputable def G12 (x : X12) : Gd Go.Proofs.Try.prog Y12 :=
  (.n 7 (.t [(2, false)] c27 (T_cpu_core.mk x.1) fun (r7 : Y27) => (.s r7 (.n 5 (Gd.z [] x.1)) (.n 6 (.s (x.1.Mode == 4) (.n 1 (.t [(2, false)] c28 (T_cpu_core.mk x.1) fun (r17 : Y28) => (.n 5 (Gd.z [] r17.Cpu)))) (.n 1 (.k [(2, false)] c20 (T_cpu_core.mk x.1) fun (r17 : Y20) => (.n 1 (.s (!r17) (.n 2 (.t [(2, false)] c29 ((T_cpu_core.mk x.1), x.2.1) fun (r22 : Y29) => (.n 6 (.k [(2, false)] c24 (T_cpu_core.mk ({ r22.Cpu with Mode := 0 })) fun (r29 : Y24) => (.n 7 (.s (!r29.2) (.n 3 (.k [(2, false)] c31 ((T_cpu_core.mk ({ r22.Cpu with Mode := 0 })), (bits .and .u8 x.2.2 31)) fun (r41 : Y31) => (.n 5 (Gd.z [] r41.Cpu)))) (.n 5 (Gd.z [] ({ r22.Cpu with Mode := 0 }))))))))) (.n 1 (.t [(2, false)] c23 (T_cpu_core.mk x.1) fun (r21 : Y23) => (.s r21 (.n 34 (.k [(2, false)] c24 (T_cpu_core.mk ({ x.1 with R := { x.1.R with PC := (IntKind.wrap .u16 (x.1.R.PC + 1)) }, Mode := 0, Op := x.2.1, Cb := true, Step := 2 })) fun (r57 : Y24) => (.n 7 (.s (!r57.2) (.n 3 (.k [(2, false)] c31 ((T_cpu_core.mk ({ x.1 with R := { x.1.R with PC := (IntKind.wrap .u16 (x.1.R.PC + 1)) }, Mode := 0, Op := x.2.1, Cb := true, Step := 2 })), (bits .and .u8 x.2.2 31)) fun (r69 : Y31) => (.n 5 (Gd.z [] r69.Cpu)))) (.n 5 (Gd.z [] ({ x.1 with R := { x.1.R with PC := (IntKind.wrap .u16 (x.1.R.PC + 1)) }, Mode := 0, Op := x.2.1, Cb := true, Step := 2 }))))))) (.n 2 (.k [(2, false)] c30 ((T_cpu_core.mk x.1), x.2.1) fun (r25 : Y30) => (.n 6 (.k [(2, false)] c24 (T_cpu_core.mk ({ r25.Cpu with Mode := 0 })) fun (r32 : Y24) => (.n 7 (.s (!r32.2) (.n 3 (.k [(2, false)] c31 ((T_cpu_core.mk ({ r25.Cpu with Mode := 0 })), (bits .and .u8 x.2.2 31)) fun (r44 : Y31) => (.n 5 (Gd.z [] r44.Cpu)))) (.n 5 (Gd.z [] ({ r25.Cpu with Mode := 0 })))))))))))))))))))))
theorem K12 (x : X12) : evF Go.Proofs.Try.prog 12 (A12 x) ((J12 x).map (·.1)) (G12 x) = (G12 x).exp fun y => (V12 y, (H12 x y).map (·.1)) := by kernel_rfl
noncomputable def F12 (x : X12) : Option Y12 := (G12 x).run
@[reducible] noncomputable def c12 : Con Go.Proofs.Try.prog := Con.of mixed 12 true A12 J12 V12 H12 G12 F12 (fun _ => rfl) K12 (fun _ => all_is (by kernel_rfl)) (fun _ _ => all_is (by kernel_rfl))
/-- whirligig/cpu.Busy -/
abbrev X11 := T_api_Cpu
abbrev Y11 := Bool
noncomputable def A11 (x : X11) : List Value := [(T_api_Cpu.v x)]
noncomputable def J11 (x : X11) : List (Sl × Bool) := []
noncomputable def V11 (r : Y11) : Value := (.bool r)
noncomputable def H11 (x : X11) (r : Y11) : List (Sl × Bool) := J11 x
noncomputable def G11 (x : X11) : Gd Go.Proofs.Try.prog Y11 :=
  (.n 5 (.k [(1, false)] c20 (T_cpu_core.mk x) fun (r5 : Y20) => (.n 1 (Gd.z [] r5))))
theorem K11 (x : X11) : evF Go.Proofs.Try.prog 11 (A11 x) ((J11 x).map (·.1)) (G11 x) = (G11 x).exp fun y => (V11 y, (H11 x y).map (·.1)) := by kernel_rfl
noncomputable def F11 (x : X11) : Option Y11 := (G11 x).run
@[reducible] noncomputable def c11 : Con Go.Proofs.Try.prog := Con.of mixed 11 true A11 J11 V11 H11 G11 F11 (fun _ => rfl) K11 (fun _ => all_is (by kernel_rfl)) (fun _ _ => all_is (by kernel_rfl))
/-- whirligig/whirligiglaw22.shown -/
abbrev X8 := Unit
abbrev Y8 := Bool
noncomputable def A8 (x : X8) : List Value := []
noncomputable def J8 (x : X8) : List (Sl × Bool) := []
noncomputable def V8 (r : Y8) : Value := (.bool r)
noncomputable def H8 (x : X8) (r : Y8) : List (Sl × Bool) := J8 x
noncomputable def G8 (x : X8) : Gd Go.Proofs.Try.prog Y8 :=
  (.n 1 (.t [] c19 () fun (r1 : Y19) => (.n 3 (.k [] c10 (r1, 0) fun (r5 : Y10) => (.n 10 (.k [] c12 (r5.1, 60, 0) fun (r16 : Y12) => (.n 6 (.s (r1.R.A == 1) (.n 5 (.s (r1.R.PC == 256) (.n 4 (.s (T_api_Act.eqb r5.2.1 (T_api_Act.mk 1 256 0)) (.n 3 (.s (r5.2.2 == (-1)) (.n 5 (.s (r16.R.A == 2) (.n 5 (.s (r16.R.PC == 257) (.n 4 (.s (r16.Step == 0) (.n 1 (.k [] c11 r16 fun (r57 : Y11) => (.n 3 (Gd.z [] (!r57))))) (.n 2 (Gd.z [] false)))) (.n 4 (Gd.z [] false)))) (.n 6 (Gd.z [] false)))) (.n 8 (Gd.z [] false)))) (.n 10 (Gd.z [] false)))) (.n 12 (Gd.z [] false)))) (.n 14 (Gd.z [] false))))))))))
theorem K8 (x : X8) : evF Go.Proofs.Try.prog 8 (A8 x) ((J8 x).map (·.1)) (G8 x) = (G8 x).exp fun y => (V8 y, (H8 x y).map (·.1)) := by kernel_rfl
noncomputable def F8 (x : X8) : Option Y8 := (G8 x).run
@[reducible] noncomputable def c8 : Con Go.Proofs.Try.prog := Con.of mixed 8 true A8 J8 V8 H8 G8 F8 (fun _ => rfl) K8 (fun _ => all_is (by kernel_rfl)) (fun _ _ => all_is (by kernel_rfl))
/-- whirligig/whirligiglaw22.begun -/
abbrev X9 := T_api_Regs
abbrev Y9 := T_api_Cpu
noncomputable def A9 (x : X9) : List Value := [(T_api_Regs.v x)]
noncomputable def J9 (x : X9) : List (Sl × Bool) := []
noncomputable def V9 (r : Y9) : Value := (T_api_Cpu.v r)
noncomputable def H9 (x : X9) (r : Y9) : List (Sl × Bool) := J9 x
noncomputable def G9 (x : X9) : Gd Go.Proofs.Try.prog Y9 :=
  (.n 10 (Gd.z [] (T_api_Cpu.mk ({ x with F := (bits .andNot .u8 x.F 15) }) false false false 0 0 false 0 0 0)))
theorem K9 (x : X9) : evF Go.Proofs.Try.prog 9 (A9 x) ((J9 x).map (·.1)) (G9 x) = (G9 x).exp fun y => (V9 y, (H9 x y).map (·.1)) := by kernel_rfl
noncomputable def f9 (x : X9) : Y9 := (G9 x).val (T_api_Cpu.mk (T_api_Regs.mk 0 0 0 0 0 0 0 0 0 0) false false false 0 0 false 0 0 0)
theorem T9 (x : X9) : (G9 x).tot = true := by kernel_rfl
@[reducible] noncomputable def c9 : ConT Go.Proofs.Try.prog := ConT.of mixed 9 true A9 J9 V9 H9 G9 (T_api_Cpu.mk (T_api_Regs.mk 0 0 0 0 0 0 0 0 0 0) false false false 0 0 false 0 0 0) f9 (fun _ => rfl) T9 K9 (fun _ => all_is (by kernel_rfl)) (fun _ _ => all_is (by kernel_rfl))
abbrev LP3_l1 := Int × Bool × T_api_Regs
abbrev LS3_l1 := Int × Int × T_api_Cpu × List T_api_Act
abbrev LA3_l1 := Int × T_api_Cpu × List T_api_Act
abbrev LB3_l1 := Unit
abbrev LY3_l1 := LA3_l1 ⊕ LB3_l1
noncomputable def Lt3_l1 (p : LP3_l1) (x : LS3_l1) : Tm := [(1, (.int .u8 1)), (2, (.int .u8 p.1)), (3, (.pointer (some ⟨0, 0, none⟩))), (7, (.bool p.2.1)), (8, (.pointer (some ⟨1, 0, none⟩))), (9, (.int .i64 x.1)), (10, (.slice (some ⟨2, 0, none⟩) (List.length x.2.2.2) 0)), (11, (.int .i64 x.2.1))]
noncomputable def Lh3_l1 (p : LP3_l1) (x : LS3_l1) : Heap := [(.live ⟨T_api_Regs.cells p.2.2, true, none⟩), (.live ⟨T_api_Cpu.cells x.2.2.1, true, none⟩), (.live ⟨List.flatMap T_api_Act.cells x.2.2.2, true, some (31, 3)⟩)]
noncomputable def Le3_l1 (y : LY3_l1) : Ex := match y with | .inl y => (.exit 0) | .inr y => .ret
noncomputable def Lu3_l1 (p : LP3_l1) (y : LY3_l1) : Tm := match y with | .inl y => [(2, (.int .u8 p.1)), (3, (.pointer (some ⟨0, 0, none⟩))), (7, (.bool p.2.1)), (8, (.pointer (some ⟨1, 0, none⟩))), (9, (.int .i64 y.1)), (10, (.slice (some ⟨2, 0, none⟩) (List.length y.2.2) 0))] | .inr y => [(6, (.bool false))]
noncomputable def Lv3_l1 (p : LP3_l1) (y : LY3_l1) : Heap := match y with | .inl y => [(.live ⟨T_api_Regs.cells p.2.2, true, none⟩), (.live ⟨T_api_Cpu.cells y.2.1, true, none⟩), (.live ⟨List.flatMap T_api_Act.cells y.2.2, true, some (31, 3)⟩)] | .inr y => []
noncomputable def Lk3_l1 : Ex → List Nat := fun e => match e with | .normal => [1, 2, 3, 7, 8, 9, 10, 11] | .ret => [6] | _ => [2, 3, 7, 8, 9, 10]
noncomputable def LG3_l1 (p : LP3_l1) (x : LS3_l1) : Gd Go.Proofs.Try.prog (LS3_l1 ⊕ LY3_l1) :=
  (.n 1 (.s (decide (x.2.1 < 5)) (.n 3 (.s (decide (x.2.1 > 2)) (.n 4 (.k [] c10 (x.2.2.1, p.1) fun (r10 : Y10) => (.n 10 (.s (decide (r10.2.2 ≥ 0)) (.n 6 (.s (x.2.1 == 3) (.n 5 (.s (!((decide (r10.2.2 ≥ 0)) == ((Int.tmod p.1 32) != 0))) (.n 2 (Gd.z [] (.inr (.inr ())))) (.n 2 (.k [] c12 (r10.1, 0, p.1) fun (r37 : Y12) => (.k [] c11 r37 fun (r38 : Y11) => (.n 3 (.s (!(r38 == (decide (x.2.1 < 4)))) (.n 1 (Gd.z [] (.inr (.inr ())))) (.n 3 (Gd.ap T_api_Act.cells 3 16 (fun _ => rfl) x.2.2.2 [r10.2.1] [(.int .i64 r10.2.1.Kind), (.int .u16 r10.2.1.Addr), (.int .u8 r10.2.1.Data)] 0 1 6 rfl rfl (.n 3 (.k [] c12 (r10.1, 0, p.1) fun (r50 : Y12) => (.n 4 (.e [(0, false), (1, false), (6, true)] [NoAddr (List.flatMap T_api_Act.cells (x.2.2.2 ++ [r10.2.1]))] true (fun _ => ⟨na_flat (fun _ => rfl) _, trivial⟩) (.inl (r10.2.2, (IntKind.wrap .i64 (x.2.1 + 1)), r50, (x.2.2.2 ++ [r10.2.1])))))))))))))))) (.n 2 (.s (!((decide (r10.2.2 ≥ 0)) == false)) (.n 2 (Gd.z [] (.inr (.inr ())))) (.n 2 (.k [] c12 (r10.1, 0, p.1) fun (r34 : Y12) => (.k [] c11 r34 fun (r35 : Y11) => (.n 3 (.s (!(r35 == (decide (x.2.1 < 4)))) (.n 1 (Gd.z [] (.inr (.inr ())))) (.n 3 (Gd.ap T_api_Act.cells 3 16 (fun _ => rfl) x.2.2.2 [r10.2.1] [(.int .i64 r10.2.1.Kind), (.int .u16 r10.2.1.Addr), (.int .u8 r10.2.1.Data)] 0 1 6 rfl rfl (.n 3 (.k [] c12 (r10.1, 0, p.1) fun (r47 : Y12) => (.n 4 (.e [(0, false), (1, false), (6, true)] [NoAddr (List.flatMap T_api_Act.cells (x.2.2.2 ++ [r10.2.1]))] true (fun _ => ⟨na_flat (fun _ => rfl) _, trivial⟩) (.inl (r10.2.2, (IntKind.wrap .i64 (x.2.1 + 1)), r47, (x.2.2.2 ++ [r10.2.1])))))))))))))))))) (.n 4 (.s (x.2.1 == 3) (.n 5 (.s (!((decide (r10.2.2 ≥ 0)) == ((Int.tmod p.1 32) != 0))) (.n 2 (Gd.z [] (.inr (.inr ())))) (.n 2 (.k [] c12 (r10.1, 0, p.1) fun (r35 : Y12) => (.k [] c11 r35 fun (r36 : Y11) => (.n 3 (.s (!(r36 == (decide (x.2.1 < 4)))) (.n 1 (Gd.z [] (.inr (.inr ())))) (.n 3 (Gd.ap T_api_Act.cells 3 16 (fun _ => rfl) x.2.2.2 [r10.2.1] [(.int .i64 r10.2.1.Kind), (.int .u16 r10.2.1.Addr), (.int .u8 r10.2.1.Data)] 0 1 6 rfl rfl (.n 3 (.k [] c12 (r10.1, 0, p.1) fun (r48 : Y12) => (.n 4 (.e [(0, false), (1, false), (6, true)] [NoAddr (List.flatMap T_api_Act.cells (x.2.2.2 ++ [r10.2.1]))] true (fun _ => ⟨na_flat (fun _ => rfl) _, trivial⟩) (.inl (x.1, (IntKind.wrap .i64 (x.2.1 + 1)), r48, (x.2.2.2 ++ [r10.2.1])))))))))))))))) (.n 2 (.s (!((decide (r10.2.2 ≥ 0)) == false)) (.n 2 (Gd.z [] (.inr (.inr ())))) (.n 2 (.k [] c12 (r10.1, 0, p.1) fun (r32 : Y12) => (.k [] c11 r32 fun (r33 : Y11) => (.n 3 (.s (!(r33 == (decide (x.2.1 < 4)))) (.n 1 (Gd.z [] (.inr (.inr ())))) (.n 3 (Gd.ap T_api_Act.cells 3 16 (fun _ => rfl) x.2.2.2 [r10.2.1] [(.int .i64 r10.2.1.Kind), (.int .u16 r10.2.1.Addr), (.int .u8 r10.2.1.Data)] 0 1 6 rfl rfl (.n 3 (.k [] c12 (r10.1, 0, p.1) fun (r45 : Y12) => (.n 4 (.e [(0, false), (1, false), (6, true)] [NoAddr (List.flatMap T_api_Act.cells (x.2.2.2 ++ [r10.2.1]))] true (fun _ => ⟨na_flat (fun _ => rfl) _, trivial⟩) (.inl (x.1, (IntKind.wrap .i64 (x.2.1 + 1)), r45, (x.2.2.2 ++ [r10.2.1])))))))))))))))))))))) (.n 2 (.k [] c10 (x.2.2.1, 1) fun (r8 : Y10) => (.n 10 (.s (decide (r8.2.2 ≥ 0)) (.n 6 (.s (x.2.1 == 3) (.n 5 (.s (!((decide (r8.2.2 ≥ 0)) == ((Int.tmod p.1 32) != 0))) (.n 2 (Gd.z [] (.inr (.inr ())))) (.n 2 (.k [] c12 (r8.1, 0, 1) fun (r35 : Y12) => (.k [] c11 r35 fun (r36 : Y11) => (.n 3 (.s (!(r36 == (decide (x.2.1 < 4)))) (.n 1 (Gd.z [] (.inr (.inr ())))) (.n 3 (Gd.ap T_api_Act.cells 3 16 (fun _ => rfl) x.2.2.2 [r8.2.1] [(.int .i64 r8.2.1.Kind), (.int .u16 r8.2.1.Addr), (.int .u8 r8.2.1.Data)] 0 1 6 rfl rfl (.n 3 (.k [] c12 (r8.1, 0, 1) fun (r48 : Y12) => (.n 4 (.e [(0, false), (1, false), (6, true)] [NoAddr (List.flatMap T_api_Act.cells (x.2.2.2 ++ [r8.2.1]))] true (fun _ => ⟨na_flat (fun _ => rfl) _, trivial⟩) (.inl (r8.2.2, (IntKind.wrap .i64 (x.2.1 + 1)), r48, (x.2.2.2 ++ [r8.2.1])))))))))))))))) (.n 2 (.s (!((decide (r8.2.2 ≥ 0)) == false)) (.n 2 (Gd.z [] (.inr (.inr ())))) (.n 2 (.k [] c12 (r8.1, 0, 1) fun (r32 : Y12) => (.k [] c11 r32 fun (r33 : Y11) => (.n 3 (.s (!(r33 == (decide (x.2.1 < 4)))) (.n 1 (Gd.z [] (.inr (.inr ())))) (.n 3 (Gd.ap T_api_Act.cells 3 16 (fun _ => rfl) x.2.2.2 [r8.2.1] [(.int .i64 r8.2.1.Kind), (.int .u16 r8.2.1.Addr), (.int .u8 r8.2.1.Data)] 0 1 6 rfl rfl (.n 3 (.k [] c12 (r8.1, 0, 1) fun (r45 : Y12) => (.n 4 (.e [(0, false), (1, false), (6, true)] [NoAddr (List.flatMap T_api_Act.cells (x.2.2.2 ++ [r8.2.1]))] true (fun _ => ⟨na_flat (fun _ => rfl) _, trivial⟩) (.inl (r8.2.2, (IntKind.wrap .i64 (x.2.1 + 1)), r45, (x.2.2.2 ++ [r8.2.1])))))))))))))))))) (.n 4 (.s (x.2.1 == 3) (.n 5 (.s (!((decide (r8.2.2 ≥ 0)) == ((Int.tmod p.1 32) != 0))) (.n 2 (Gd.z [] (.inr (.inr ())))) (.n 2 (.k [] c12 (r8.1, 0, 1) fun (r33 : Y12) => (.k [] c11 r33 fun (r34 : Y11) => (.n 3 (.s (!(r34 == (decide (x.2.1 < 4)))) (.n 1 (Gd.z [] (.inr (.inr ())))) (.n 3 (Gd.ap T_api_Act.cells 3 16 (fun _ => rfl) x.2.2.2 [r8.2.1] [(.int .i64 r8.2.1.Kind), (.int .u16 r8.2.1.Addr), (.int .u8 r8.2.1.Data)] 0 1 6 rfl rfl (.n 3 (.k [] c12 (r8.1, 0, 1) fun (r46 : Y12) => (.n 4 (.e [(0, false), (1, false), (6, true)] [NoAddr (List.flatMap T_api_Act.cells (x.2.2.2 ++ [r8.2.1]))] true (fun _ => ⟨na_flat (fun _ => rfl) _, trivial⟩) (.inl (x.1, (IntKind.wrap .i64 (x.2.1 + 1)), r46, (x.2.2.2 ++ [r8.2.1])))))))))))))))) (.n 2 (.s (!((decide (r8.2.2 ≥ 0)) == false)) (.n 2 (Gd.z [] (.inr (.inr ())))) (.n 2 (.k [] c12 (r8.1, 0, 1) fun (r30 : Y12) => (.k [] c11 r30 fun (r31 : Y11) => (.n 3 (.s (!(r31 == (decide (x.2.1 < 4)))) (.n 1 (Gd.z [] (.inr (.inr ())))) (.n 3 (Gd.ap T_api_Act.cells 3 16 (fun _ => rfl) x.2.2.2 [r8.2.1] [(.int .i64 r8.2.1.Kind), (.int .u16 r8.2.1.Addr), (.int .u8 r8.2.1.Data)] 0 1 6 rfl rfl (.n 3 (.k [] c12 (r8.1, 0, 1) fun (r43 : Y12) => (.n 4 (.e [(0, false), (1, false), (6, true)] [NoAddr (List.flatMap T_api_Act.cells (x.2.2.2 ++ [r8.2.1]))] true (fun _ => ⟨na_flat (fun _ => rfl) _, trivial⟩) (.inl (x.1, (IntKind.wrap .i64 (x.2.1 + 1)), r43, (x.2.2.2 ++ [r8.2.1])))))))))))))))))))))))) (.e [(0, false), (1, false), (2, true)] [NoAddr (List.flatMap T_api_Act.cells x.2.2.2)] true (fun _ => ⟨na_flat (fun _ => rfl) _, trivial⟩) (.inr (.inl (x.1, x.2.2.1, x.2.2.2))))))
theorem LK3_l1 (p : LP3_l1) (x : LS3_l1) : evB Go.Proofs.Try.prog 177 0 (loopOf Go.Proofs.Try.prog 3 0) Lk3_l1 (Lt3_l1 p x) (Lh3_l1 p x) (LG3_l1 p x) = (LG3_l1 p x).exp fun r => match r with | .inl x' => (.normal, Lt3_l1 p x', Lh3_l1 p x') | .inr y => (Le3_l1 y, Lu3_l1 p y, Lv3_l1 p y) := by kernel_rfl
noncomputable def LF3_l1 (p : LP3_l1) (n : Nat) (x : LS3_l1) : Option LY3_l1 := rounds (fun x => (LG3_l1 p x).run) n x
theorem LE3_l1 (y : LY3_l1) : Le3_l1 y ≠ .normal := by cases y <;> (intro h; cases h)
@[reducible] noncomputable def lc3_l1 (p : LP3_l1) : LCon Go.Proofs.Try.prog := LCon.of mixed 177 0 (loopOf Go.Proofs.Try.prog 3 0) Lk3_l1 (Lt3_l1 p) (Lh3_l1 p) Le3_l1 (Lu3_l1 p) (Lv3_l1 p) LE3_l1 (LG3_l1 p) (fun _ => 18446744073709551616) (LF3_l1 p 18446744073709551616) (fun _ => rfl) (LK3_l1 p)
abbrev LP3_l2 := Int × Bool × Int × Int × T_api_Regs × T_api_Cpu × List T_api_Act × T_api_Act × T_api_Act
abbrev LS3_l2 := Int
abbrev LA3_l2 := Unit
abbrev LB3_l2 := Unit
abbrev LY3_l2 := LA3_l2 ⊕ LB3_l2
noncomputable def Lt3_l2 (p : LP3_l2) (x : LS3_l2) : Tm := [(2, (.int .u8 p.1)), (3, (.pointer (some ⟨0, 0, none⟩))), (7, (.bool p.2.1)), (8, (.pointer (some ⟨1, 0, none⟩))), (9, (.int .i64 p.2.2.1)), (10, (.slice (some ⟨2, 0, none⟩) (List.length p.2.2.2.2.2.2.1) 0)), (16, (.pointer (some ⟨3, 0, none⟩))), (17, (.pointer (some ⟨4, 0, none⟩))), (18, (.pointer (some ⟨5, 0, none⟩))), (19, (.int .u16 p.2.2.2.1)), (20, (.int .i64 x))]
noncomputable def Lh3_l2 (p : LP3_l2) (x : LS3_l2) : Heap := [(.live ⟨T_api_Regs.cells p.2.2.2.2.1, true, none⟩), (.live ⟨T_api_Cpu.cells p.2.2.2.2.2.1, true, none⟩), (.live ⟨List.flatMap T_api_Act.cells p.2.2.2.2.2.2.1, true, some (31, 3)⟩), (.live ⟨[(.int .i64 0), (.int .u16 0), (.int .u8 0)], true, none⟩), (.live ⟨T_api_Act.cells p.2.2.2.2.2.2.2.1, true, none⟩), (.live ⟨T_api_Act.cells p.2.2.2.2.2.2.2.2, true, none⟩)]
noncomputable def Le3_l2 (y : LY3_l2) : Ex := match y with | .inl y => (.exit 2) | .inr y => .ret
noncomputable def Lu3_l2 (p : LP3_l2) (y : LY3_l2) : Tm := match y with | .inl y => [(2, (.int .u8 p.1)), (3, (.pointer (some ⟨0, 0, none⟩))), (7, (.bool p.2.1)), (8, (.pointer (some ⟨1, 0, none⟩))), (9, (.int .i64 p.2.2.1)), (10, (.slice (some ⟨2, 0, none⟩) (List.length p.2.2.2.2.2.2.1) 0)), (16, (.pointer (some ⟨3, 0, none⟩))), (17, (.pointer (some ⟨4, 0, none⟩))), (18, (.pointer (some ⟨5, 0, none⟩))), (19, (.int .u16 p.2.2.2.1))] | .inr y => [(6, (.bool false))]
noncomputable def Lv3_l2 (p : LP3_l2) (y : LY3_l2) : Heap := match y with | .inl y => [(.live ⟨T_api_Regs.cells p.2.2.2.2.1, true, none⟩), (.live ⟨T_api_Cpu.cells p.2.2.2.2.2.1, true, none⟩), (.live ⟨List.flatMap T_api_Act.cells p.2.2.2.2.2.2.1, true, some (31, 3)⟩), (.live ⟨[(.int .i64 0), (.int .u16 0), (.int .u8 0)], true, none⟩), (.live ⟨T_api_Act.cells p.2.2.2.2.2.2.2.1, true, none⟩), (.live ⟨T_api_Act.cells p.2.2.2.2.2.2.2.2, true, none⟩)] | .inr y => []
noncomputable def Lk3_l2 : Ex → List Nat := fun e => match e with | .normal => [2, 3, 7, 8, 9, 10, 16, 17, 18, 19, 20] | .ret => [6] | _ => [2, 3, 7, 8, 9, 10, 16, 17, 18, 19]
noncomputable def LG3_l2 (p : LP3_l2) (x : LS3_l2) : Gd Go.Proofs.Try.prog (LS3_l2 ⊕ LY3_l2) :=
  (.n 2 (.s (decide (x < p.2.2.1)) (.n 2 (Gd.q x (.n 1 (.s ((bits .and .u8 (Int.fdiv p.1 (2 ^ (min (Int.toNat x) (IntKind.bits .u8)))) 1) == 1) (.n 1 (Gd.z [] (.inr (.inr ())))) (.n 3 (.e [(0, false), (1, false), (2, true), (3, false), (4, false), (5, false)] [NoAddr (List.flatMap T_api_Act.cells p.2.2.2.2.2.2.1)] true (fun _ => ⟨na_flat (fun _ => rfl) _, trivial⟩) (.inl (IntKind.wrap .i64 (x + 1))))))))) (.e [(0, false), (1, false), (2, true), (3, false), (4, false), (5, false)] [NoAddr (List.flatMap T_api_Act.cells p.2.2.2.2.2.2.1)] true (fun _ => ⟨na_flat (fun _ => rfl) _, trivial⟩) (.inr (.inl ())))))
theorem LK3_l2 (p : LP3_l2) (x : LS3_l2) : evB Go.Proofs.Try.prog 177 0 (loopOf Go.Proofs.Try.prog 3 1) Lk3_l2 (Lt3_l2 p x) (Lh3_l2 p x) (LG3_l2 p x) = (LG3_l2 p x).exp fun r => match r with | .inl x' => (.normal, Lt3_l2 p x', Lh3_l2 p x') | .inr y => (Le3_l2 y, Lu3_l2 p y, Lv3_l2 p y) := by kernel_rfl
noncomputable def LF3_l2 (p : LP3_l2) (n : Nat) (x : LS3_l2) : Option LY3_l2 := rounds (fun x => (LG3_l2 p x).run) n x
theorem LE3_l2 (y : LY3_l2) : Le3_l2 y ≠ .normal := by cases y <;> (intro h; cases h)
@[reducible] noncomputable def lc3_l2 (p : LP3_l2) : LCon Go.Proofs.Try.prog := LCon.of mixed 177 0 (loopOf Go.Proofs.Try.prog 3 1) Lk3_l2 (Lt3_l2 p) (Lh3_l2 p) Le3_l2 (Lu3_l2 p) (Lv3_l2 p) LE3_l2 (LG3_l2 p) (fun _ => 18446744073709551616) (LF3_l2 p 18446744073709551616) (fun _ => rfl) (LK3_l2 p)
abbrev LP3_l3 := Int × Bool × Int × T_api_Regs × T_api_Cpu × List T_api_Act × T_api_Act × T_api_Act
abbrev LS3_l3 := Int
abbrev LA3_l3 := Unit
abbrev LB3_l3 := Unit
abbrev LY3_l3 := LA3_l3 ⊕ LB3_l3
noncomputable def Lt3_l3 (p : LP3_l3) (x : LS3_l3) : Tm := [(2, (.int .u8 p.1)), (3, (.pointer (some ⟨0, 0, none⟩))), (7, (.bool p.2.1)), (8, (.pointer (some ⟨1, 0, none⟩))), (9, (.int .i64 p.2.2.1)), (10, (.slice (some ⟨2, 0, none⟩) (List.length p.2.2.2.2.2.1) 0)), (16, (.pointer (some ⟨3, 0, none⟩))), (17, (.pointer (some ⟨4, 0, none⟩))), (18, (.pointer (some ⟨5, 0, none⟩))), (19, (.int .u16 0)), (20, (.int .i64 x))]
noncomputable def Lh3_l3 (p : LP3_l3) (x : LS3_l3) : Heap := [(.live ⟨T_api_Regs.cells p.2.2.2.1, true, none⟩), (.live ⟨T_api_Cpu.cells p.2.2.2.2.1, true, none⟩), (.live ⟨List.flatMap T_api_Act.cells p.2.2.2.2.2.1, true, some (31, 3)⟩), (.live ⟨[(.int .i64 0), (.int .u16 0), (.int .u8 0)], true, none⟩), (.live ⟨T_api_Act.cells p.2.2.2.2.2.2.1, true, none⟩), (.live ⟨T_api_Act.cells p.2.2.2.2.2.2.2, true, none⟩)]
noncomputable def Le3_l3 (y : LY3_l3) : Ex := match y with | .inl y => (.exit 2) | .inr y => .ret
noncomputable def Lu3_l3 (p : LP3_l3) (y : LY3_l3) : Tm := match y with | .inl y => [(2, (.int .u8 p.1)), (3, (.pointer (some ⟨0, 0, none⟩))), (7, (.bool p.2.1)), (8, (.pointer (some ⟨1, 0, none⟩))), (9, (.int .i64 p.2.2.1)), (10, (.slice (some ⟨2, 0, none⟩) (List.length p.2.2.2.2.2.1) 0)), (16, (.pointer (some ⟨3, 0, none⟩))), (17, (.pointer (some ⟨4, 0, none⟩))), (18, (.pointer (some ⟨5, 0, none⟩))), (19, (.int .u16 0))] | .inr y => [(6, (.bool false))]
noncomputable def Lv3_l3 (p : LP3_l3) (y : LY3_l3) : Heap := match y with | .inl y => [(.live ⟨T_api_Regs.cells p.2.2.2.1, true, none⟩), (.live ⟨T_api_Cpu.cells p.2.2.2.2.1, true, none⟩), (.live ⟨List.flatMap T_api_Act.cells p.2.2.2.2.2.1, true, some (31, 3)⟩), (.live ⟨[(.int .i64 0), (.int .u16 0), (.int .u8 0)], true, none⟩), (.live ⟨T_api_Act.cells p.2.2.2.2.2.2.1, true, none⟩), (.live ⟨T_api_Act.cells p.2.2.2.2.2.2.2, true, none⟩)] | .inr y => []
noncomputable def Lk3_l3 : Ex → List Nat := fun e => match e with | .normal => [2, 3, 7, 8, 9, 10, 16, 17, 18, 19, 20] | .ret => [6] | _ => [2, 3, 7, 8, 9, 10, 16, 17, 18, 19]
noncomputable def LG3_l3 (p : LP3_l3) (x : LS3_l3) : Gd Go.Proofs.Try.prog (LS3_l3 ⊕ LY3_l3) :=
  (.n 2 (.s (decide (x < p.2.2.1)) (.n 2 (Gd.q x (.n 1 (.s ((bits .and .u8 (Int.fdiv p.1 (2 ^ (min (Int.toNat x) (IntKind.bits .u8)))) 1) == 1) (.n 1 (Gd.z [] (.inr (.inr ())))) (.n 3 (.e [(0, false), (1, false), (2, true), (3, false), (4, false), (5, false)] [NoAddr (List.flatMap T_api_Act.cells p.2.2.2.2.2.1)] true (fun _ => ⟨na_flat (fun _ => rfl) _, trivial⟩) (.inl (IntKind.wrap .i64 (x + 1))))))))) (.e [(0, false), (1, false), (2, true), (3, false), (4, false), (5, false)] [NoAddr (List.flatMap T_api_Act.cells p.2.2.2.2.2.1)] true (fun _ => ⟨na_flat (fun _ => rfl) _, trivial⟩) (.inr (.inl ())))))
theorem LK3_l3 (p : LP3_l3) (x : LS3_l3) : evB Go.Proofs.Try.prog 177 0 (loopOf Go.Proofs.Try.prog 3 1) Lk3_l3 (Lt3_l3 p x) (Lh3_l3 p x) (LG3_l3 p x) = (LG3_l3 p x).exp fun r => match r with | .inl x' => (.normal, Lt3_l3 p x', Lh3_l3 p x') | .inr y => (Le3_l3 y, Lu3_l3 p y, Lv3_l3 p y) := by kernel_rfl
noncomputable def LF3_l3 (p : LP3_l3) (n : Nat) (x : LS3_l3) : Option LY3_l3 := rounds (fun x => (LG3_l3 p x).run) n x
theorem LE3_l3 (y : LY3_l3) : Le3_l3 y ≠ .normal := by cases y <;> (intro h; cases h)
@[reducible] noncomputable def lc3_l3 (p : LP3_l3) : LCon Go.Proofs.Try.prog := LCon.of mixed 177 0 (loopOf Go.Proofs.Try.prog 3 1) Lk3_l3 (Lt3_l3 p) (Lh3_l3 p) Le3_l3 (Lu3_l3 p) (Lv3_l3 p) LE3_l3 (LG3_l3 p) (fun _ => 18446744073709551616) (LF3_l3 p 18446744073709551616) (fun _ => rfl) (LK3_l3 p)
abbrev LP3_l4 := Int × Int × Bool × T_api_Regs
abbrev LS3_l4 := Int × Int × T_api_Cpu × List T_api_Act
abbrev LA3_l4 := Int × T_api_Cpu × List T_api_Act
abbrev LB3_l4 := Unit
abbrev LY3_l4 := LA3_l4 ⊕ LB3_l4
noncomputable def Lt3_l4 (p : LP3_l4) (x : LS3_l4) : Tm := [(1, (.int .u8 p.1)), (2, (.int .u8 p.2.1)), (3, (.pointer (some ⟨0, 0, none⟩))), (7, (.bool p.2.2.1)), (8, (.pointer (some ⟨1, 0, none⟩))), (9, (.int .i64 x.1)), (10, (.slice (some ⟨2, 0, none⟩) (List.length x.2.2.2) 0)), (11, (.int .i64 x.2.1))]
noncomputable def Lh3_l4 (p : LP3_l4) (x : LS3_l4) : Heap := [(.live ⟨T_api_Regs.cells p.2.2.2, true, none⟩), (.live ⟨T_api_Cpu.cells x.2.2.1, true, none⟩), (.live ⟨List.flatMap T_api_Act.cells x.2.2.2, true, some (31, 3)⟩)]
noncomputable def Le3_l4 (y : LY3_l4) : Ex := match y with | .inl y => (.exit 0) | .inr y => .ret
noncomputable def Lu3_l4 (p : LP3_l4) (y : LY3_l4) : Tm := match y with | .inl y => [(2, (.int .u8 p.2.1)), (3, (.pointer (some ⟨0, 0, none⟩))), (7, (.bool p.2.2.1)), (8, (.pointer (some ⟨1, 0, none⟩))), (9, (.int .i64 y.1)), (10, (.slice (some ⟨2, 0, none⟩) (List.length y.2.2) 0))] | .inr y => [(6, (.bool false))]
noncomputable def Lv3_l4 (p : LP3_l4) (y : LY3_l4) : Heap := match y with | .inl y => [(.live ⟨T_api_Regs.cells p.2.2.2, true, none⟩), (.live ⟨T_api_Cpu.cells y.2.1, true, none⟩), (.live ⟨List.flatMap T_api_Act.cells y.2.2, true, some (31, 3)⟩)] | .inr y => []
noncomputable def Lk3_l4 : Ex → List Nat := fun e => match e with | .normal => [1, 2, 3, 7, 8, 9, 10, 11] | .ret => [6] | _ => [2, 3, 7, 8, 9, 10]
noncomputable def LG3_l4 (p : LP3_l4) (x : LS3_l4) : Gd Go.Proofs.Try.prog (LS3_l4 ⊕ LY3_l4) :=
  (.n 1 (.s (decide (x.2.1 < 5)) (.n 3 (.s (decide (x.2.1 > 2)) (.n 4 (.k [] c10 (x.2.2.1, p.2.1) fun (r10 : Y10) => (.n 10 (.s (decide (r10.2.2 ≥ 0)) (.n 6 (.s (x.2.1 == 3) (.n 5 (.s (!((decide (r10.2.2 ≥ 0)) == ((Int.tmod p.2.1 32) != 0))) (.n 2 (Gd.z [] (.inr (.inr ())))) (.n 2 (.k [] c12 (r10.1, 0, p.2.1) fun (r37 : Y12) => (.k [] c11 r37 fun (r38 : Y11) => (.n 3 (.s (!(r38 == (decide (x.2.1 < 4)))) (.n 1 (Gd.z [] (.inr (.inr ())))) (.n 3 (Gd.ap T_api_Act.cells 3 16 (fun _ => rfl) x.2.2.2 [r10.2.1] [(.int .i64 r10.2.1.Kind), (.int .u16 r10.2.1.Addr), (.int .u8 r10.2.1.Data)] 0 1 6 rfl rfl (.n 3 (.k [] c12 (r10.1, 0, p.2.1) fun (r50 : Y12) => (.n 4 (.e [(0, false), (1, false), (6, true)] [NoAddr (List.flatMap T_api_Act.cells (x.2.2.2 ++ [r10.2.1]))] true (fun _ => ⟨na_flat (fun _ => rfl) _, trivial⟩) (.inl (r10.2.2, (IntKind.wrap .i64 (x.2.1 + 1)), r50, (x.2.2.2 ++ [r10.2.1])))))))))))))))) (.n 2 (.s (!((decide (r10.2.2 ≥ 0)) == false)) (.n 2 (Gd.z [] (.inr (.inr ())))) (.n 2 (.k [] c12 (r10.1, 0, p.2.1) fun (r34 : Y12) => (.k [] c11 r34 fun (r35 : Y11) => (.n 3 (.s (!(r35 == (decide (x.2.1 < 4)))) (.n 1 (Gd.z [] (.inr (.inr ())))) (.n 3 (Gd.ap T_api_Act.cells 3 16 (fun _ => rfl) x.2.2.2 [r10.2.1] [(.int .i64 r10.2.1.Kind), (.int .u16 r10.2.1.Addr), (.int .u8 r10.2.1.Data)] 0 1 6 rfl rfl (.n 3 (.k [] c12 (r10.1, 0, p.2.1) fun (r47 : Y12) => (.n 4 (.e [(0, false), (1, false), (6, true)] [NoAddr (List.flatMap T_api_Act.cells (x.2.2.2 ++ [r10.2.1]))] true (fun _ => ⟨na_flat (fun _ => rfl) _, trivial⟩) (.inl (r10.2.2, (IntKind.wrap .i64 (x.2.1 + 1)), r47, (x.2.2.2 ++ [r10.2.1])))))))))))))))))) (.n 4 (.s (x.2.1 == 3) (.n 5 (.s (!((decide (r10.2.2 ≥ 0)) == ((Int.tmod p.2.1 32) != 0))) (.n 2 (Gd.z [] (.inr (.inr ())))) (.n 2 (.k [] c12 (r10.1, 0, p.2.1) fun (r35 : Y12) => (.k [] c11 r35 fun (r36 : Y11) => (.n 3 (.s (!(r36 == (decide (x.2.1 < 4)))) (.n 1 (Gd.z [] (.inr (.inr ())))) (.n 3 (Gd.ap T_api_Act.cells 3 16 (fun _ => rfl) x.2.2.2 [r10.2.1] [(.int .i64 r10.2.1.Kind), (.int .u16 r10.2.1.Addr), (.int .u8 r10.2.1.Data)] 0 1 6 rfl rfl (.n 3 (.k [] c12 (r10.1, 0, p.2.1) fun (r48 : Y12) => (.n 4 (.e [(0, false), (1, false), (6, true)] [NoAddr (List.flatMap T_api_Act.cells (x.2.2.2 ++ [r10.2.1]))] true (fun _ => ⟨na_flat (fun _ => rfl) _, trivial⟩) (.inl (x.1, (IntKind.wrap .i64 (x.2.1 + 1)), r48, (x.2.2.2 ++ [r10.2.1])))))))))))))))) (.n 2 (.s (!((decide (r10.2.2 ≥ 0)) == false)) (.n 2 (Gd.z [] (.inr (.inr ())))) (.n 2 (.k [] c12 (r10.1, 0, p.2.1) fun (r32 : Y12) => (.k [] c11 r32 fun (r33 : Y11) => (.n 3 (.s (!(r33 == (decide (x.2.1 < 4)))) (.n 1 (Gd.z [] (.inr (.inr ())))) (.n 3 (Gd.ap T_api_Act.cells 3 16 (fun _ => rfl) x.2.2.2 [r10.2.1] [(.int .i64 r10.2.1.Kind), (.int .u16 r10.2.1.Addr), (.int .u8 r10.2.1.Data)] 0 1 6 rfl rfl (.n 3 (.k [] c12 (r10.1, 0, p.2.1) fun (r45 : Y12) => (.n 4 (.e [(0, false), (1, false), (6, true)] [NoAddr (List.flatMap T_api_Act.cells (x.2.2.2 ++ [r10.2.1]))] true (fun _ => ⟨na_flat (fun _ => rfl) _, trivial⟩) (.inl (x.1, (IntKind.wrap .i64 (x.2.1 + 1)), r45, (x.2.2.2 ++ [r10.2.1])))))))))))))))))))))) (.n 2 (.k [] c10 (x.2.2.1, p.1) fun (r8 : Y10) => (.n 10 (.s (decide (r8.2.2 ≥ 0)) (.n 6 (.s (x.2.1 == 3) (.n 5 (.s (!((decide (r8.2.2 ≥ 0)) == ((Int.tmod p.2.1 32) != 0))) (.n 2 (Gd.z [] (.inr (.inr ())))) (.n 2 (.k [] c12 (r8.1, 0, p.1) fun (r35 : Y12) => (.k [] c11 r35 fun (r36 : Y11) => (.n 3 (.s (!(r36 == (decide (x.2.1 < 4)))) (.n 1 (Gd.z [] (.inr (.inr ())))) (.n 3 (Gd.ap T_api_Act.cells 3 16 (fun _ => rfl) x.2.2.2 [r8.2.1] [(.int .i64 r8.2.1.Kind), (.int .u16 r8.2.1.Addr), (.int .u8 r8.2.1.Data)] 0 1 6 rfl rfl (.n 3 (.k [] c12 (r8.1, 0, p.1) fun (r48 : Y12) => (.n 4 (.e [(0, false), (1, false), (6, true)] [NoAddr (List.flatMap T_api_Act.cells (x.2.2.2 ++ [r8.2.1]))] true (fun _ => ⟨na_flat (fun _ => rfl) _, trivial⟩) (.inl (r8.2.2, (IntKind.wrap .i64 (x.2.1 + 1)), r48, (x.2.2.2 ++ [r8.2.1])))))))))))))))) (.n 2 (.s (!((decide (r8.2.2 ≥ 0)) == false)) (.n 2 (Gd.z [] (.inr (.inr ())))) (.n 2 (.k [] c12 (r8.1, 0, p.1) fun (r32 : Y12) => (.k [] c11 r32 fun (r33 : Y11) => (.n 3 (.s (!(r33 == (decide (x.2.1 < 4)))) (.n 1 (Gd.z [] (.inr (.inr ())))) (.n 3 (Gd.ap T_api_Act.cells 3 16 (fun _ => rfl) x.2.2.2 [r8.2.1] [(.int .i64 r8.2.1.Kind), (.int .u16 r8.2.1.Addr), (.int .u8 r8.2.1.Data)] 0 1 6 rfl rfl (.n 3 (.k [] c12 (r8.1, 0, p.1) fun (r45 : Y12) => (.n 4 (.e [(0, false), (1, false), (6, true)] [NoAddr (List.flatMap T_api_Act.cells (x.2.2.2 ++ [r8.2.1]))] true (fun _ => ⟨na_flat (fun _ => rfl) _, trivial⟩) (.inl (r8.2.2, (IntKind.wrap .i64 (x.2.1 + 1)), r45, (x.2.2.2 ++ [r8.2.1])))))))))))))))))) (.n 4 (.s (x.2.1 == 3) (.n 5 (.s (!((decide (r8.2.2 ≥ 0)) == ((Int.tmod p.2.1 32) != 0))) (.n 2 (Gd.z [] (.inr (.inr ())))) (.n 2 (.k [] c12 (r8.1, 0, p.1) fun (r33 : Y12) => (.k [] c11 r33 fun (r34 : Y11) => (.n 3 (.s (!(r34 == (decide (x.2.1 < 4)))) (.n 1 (Gd.z [] (.inr (.inr ())))) (.n 3 (Gd.ap T_api_Act.cells 3 16 (fun _ => rfl) x.2.2.2 [r8.2.1] [(.int .i64 r8.2.1.Kind), (.int .u16 r8.2.1.Addr), (.int .u8 r8.2.1.Data)] 0 1 6 rfl rfl (.n 3 (.k [] c12 (r8.1, 0, p.1) fun (r46 : Y12) => (.n 4 (.e [(0, false), (1, false), (6, true)] [NoAddr (List.flatMap T_api_Act.cells (x.2.2.2 ++ [r8.2.1]))] true (fun _ => ⟨na_flat (fun _ => rfl) _, trivial⟩) (.inl (x.1, (IntKind.wrap .i64 (x.2.1 + 1)), r46, (x.2.2.2 ++ [r8.2.1])))))))))))))))) (.n 2 (.s (!((decide (r8.2.2 ≥ 0)) == false)) (.n 2 (Gd.z [] (.inr (.inr ())))) (.n 2 (.k [] c12 (r8.1, 0, p.1) fun (r30 : Y12) => (.k [] c11 r30 fun (r31 : Y11) => (.n 3 (.s (!(r31 == (decide (x.2.1 < 4)))) (.n 1 (Gd.z [] (.inr (.inr ())))) (.n 3 (Gd.ap T_api_Act.cells 3 16 (fun _ => rfl) x.2.2.2 [r8.2.1] [(.int .i64 r8.2.1.Kind), (.int .u16 r8.2.1.Addr), (.int .u8 r8.2.1.Data)] 0 1 6 rfl rfl (.n 3 (.k [] c12 (r8.1, 0, p.1) fun (r43 : Y12) => (.n 4 (.e [(0, false), (1, false), (6, true)] [NoAddr (List.flatMap T_api_Act.cells (x.2.2.2 ++ [r8.2.1]))] true (fun _ => ⟨na_flat (fun _ => rfl) _, trivial⟩) (.inl (x.1, (IntKind.wrap .i64 (x.2.1 + 1)), r43, (x.2.2.2 ++ [r8.2.1])))))))))))))))))))))))) (.e [(0, false), (1, false), (2, true)] [NoAddr (List.flatMap T_api_Act.cells x.2.2.2)] true (fun _ => ⟨na_flat (fun _ => rfl) _, trivial⟩) (.inr (.inl (x.1, x.2.2.1, x.2.2.2))))))
theorem LK3_l4 (p : LP3_l4) (x : LS3_l4) : evB Go.Proofs.Try.prog 177 0 (loopOf Go.Proofs.Try.prog 3 0) Lk3_l4 (Lt3_l4 p x) (Lh3_l4 p x) (LG3_l4 p x) = (LG3_l4 p x).exp fun r => match r with | .inl x' => (.normal, Lt3_l4 p x', Lh3_l4 p x') | .inr y => (Le3_l4 y, Lu3_l4 p y, Lv3_l4 p y) := by kernel_rfl
noncomputable def LF3_l4 (p : LP3_l4) (n : Nat) (x : LS3_l4) : Option LY3_l4 := rounds (fun x => (LG3_l4 p x).run) n x
theorem LE3_l4 (y : LY3_l4) : Le3_l4 y ≠ .normal := by cases y <;> (intro h; cases h)
@[reducible] noncomputable def lc3_l4 (p : LP3_l4) : LCon Go.Proofs.Try.prog := LCon.of mixed 177 0 (loopOf Go.Proofs.Try.prog 3 0) Lk3_l4 (Lt3_l4 p) (Lh3_l4 p) Le3_l4 (Lu3_l4 p) (Lv3_l4 p) LE3_l4 (LG3_l4 p) (fun _ => 18446744073709551616) (LF3_l4 p 18446744073709551616) (fun _ => rfl) (LK3_l4 p)
/-- whirligig/whirligiglaw22.CpuCalls -/
abbrev X3 := T_api_Regs × Int × Int
abbrev Y3 := Bool
noncomputable def A3 (x : X3) : List Value := [(T_api_Regs.v x.1), (.int .u8 x.2.1), (.int .u8 x.2.2)]
noncomputable def J3 (x : X3) : List (Sl × Bool) := []
noncomputable def V3 (r : Y3) : Value := (.bool r)
noncomputable def H3 (x : X3) (r : Y3) : List (Sl × Bool) := J3 x
noncomputable def G3 (x : X3) : Gd Go.Proofs.Try.prog Y3 :=
  (.n 2 (.k [] c8 () fun (r2 : Y8) => (.n 2 (.t [] c9 x.1 fun (r5 : Y9) => (.n 6 (.s ((Int.tmod x.2.1 32) == 0) (.n 4 (.ll [1, 2, 3, 7, 8, 9, 10, 11] [(0, false), (1, false)] [(10, 31, 3)] (lc3_l1 (x.2.2, r2, x.1)) (((-1), 0, { r5 with Ime := true }, []) : LS3_l1) [] true (fun _ => trivial) LA3_l1 LB3_l1 id id (fun _ => rfl) (fun r17 => (.n 24 (.s (decide (r17.1 ≥ 0)) (.n 6 (.ll [2, 3, 7, 8, 9, 10, 16, 17, 18, 19, 20] [(0, false), (1, false), (2, true), (3, false), (4, false), (5, false)] [] (lc3_l2 (x.2.2, r2, r17.1, (IntKind.wrap .u16 (64 + (IntKind.wrap .u16 (8 * (IntKind.wrap .u16 r17.1))))), x.1, r17.2.1, r17.2.2, (T_api_Act.mk 3 (IntKind.wrap .u16 (x.1.SP - 1)) (IntKind.wrap .u8 (Int.fdiv x.1.PC (2 ^ 8)))), (T_api_Act.mk 3 (IntKind.wrap .u16 (x.1.SP - 2)) (IntKind.wrap .u8 x.1.PC)))) ((0) : LS3_l2) [NoAddr (List.flatMap T_api_Act.cells r17.2.2)] true (fun _ => ⟨na_flat (fun _ => rfl) _, trivial⟩) LA3_l2 LB3_l2 id id (fun _ => rfl) (fun r49 => (.n 1 (.s r2 (.n 1 (Gd.ae T_api_Act.cells 3 (fun _ => rfl) r17.2.2 0 (Gd.le T_api_Act.cells 3 (T_api_Act.mk 0 0 0) (fun _ => rfl) r17.2.2 (Int.toNat 0) (.n 3 (.s (T_api_Act.eqb (List.getD r17.2.2 (Int.toNat 0) (T_api_Act.mk 0 0 0)) (T_api_Act.mk 0 0 0)) (.n 1 (Gd.ae T_api_Act.cells 3 (fun _ => rfl) r17.2.2 1 (Gd.le T_api_Act.cells 3 (T_api_Act.mk 0 0 0) (fun _ => rfl) r17.2.2 (Int.toNat 1) (.n 3 (.s (T_api_Act.eqb (List.getD r17.2.2 (Int.toNat 1) (T_api_Act.mk 0 0 0)) (T_api_Act.mk 0 0 0)) (.n 1 (Gd.ae T_api_Act.cells 3 (fun _ => rfl) r17.2.2 2 (Gd.le T_api_Act.cells 3 (T_api_Act.mk 0 0 0) (fun _ => rfl) r17.2.2 (Int.toNat 2) (.n 3 (.s (T_api_Act.eqb (List.getD r17.2.2 (Int.toNat 2) (T_api_Act.mk 0 0 0)) (T_api_Act.mk ((T_api_Act.mk 3 (IntKind.wrap .u16 (x.1.SP - 1)) (IntKind.wrap .u8 (Int.fdiv x.1.PC (2 ^ 8)))).Kind) ((T_api_Act.mk 3 (IntKind.wrap .u16 (x.1.SP - 1)) (IntKind.wrap .u8 (Int.fdiv x.1.PC (2 ^ 8)))).Addr) ((T_api_Act.mk 3 (IntKind.wrap .u16 (x.1.SP - 1)) (IntKind.wrap .u8 (Int.fdiv x.1.PC (2 ^ 8)))).Data))) (.n 1 (Gd.ae T_api_Act.cells 3 (fun _ => rfl) r17.2.2 3 (Gd.le T_api_Act.cells 3 (T_api_Act.mk 0 0 0) (fun _ => rfl) r17.2.2 (Int.toNat 3) (.n 3 (.s (T_api_Act.eqb (List.getD r17.2.2 (Int.toNat 3) (T_api_Act.mk 0 0 0)) (T_api_Act.mk ((T_api_Act.mk 3 (IntKind.wrap .u16 (x.1.SP - 2)) (IntKind.wrap .u8 x.1.PC)).Kind) ((T_api_Act.mk 3 (IntKind.wrap .u16 (x.1.SP - 2)) (IntKind.wrap .u8 x.1.PC)).Addr) ((T_api_Act.mk 3 (IntKind.wrap .u16 (x.1.SP - 2)) (IntKind.wrap .u8 x.1.PC)).Data))) (.n 1 (Gd.ae T_api_Act.cells 3 (fun _ => rfl) r17.2.2 4 (Gd.le T_api_Act.cells 3 (T_api_Act.mk 0 0 0) (fun _ => rfl) r17.2.2 (Int.toNat 4) (.n 3 (.s (T_api_Act.eqb (List.getD r17.2.2 (Int.toNat 4) (T_api_Act.mk 0 0 0)) (T_api_Act.mk 0 0 0)) (.n 6 (.s (r17.2.1.R.PC == (IntKind.wrap .u16 (64 + (IntKind.wrap .u16 (8 * (IntKind.wrap .u16 r17.1)))))) (.n 8 (.s (r17.2.1.R.SP == (IntKind.wrap .u16 (x.1.SP - 2))) (.n 4 (.s (!r17.2.1.Ime) (.n 4 (.s (!r17.2.1.Arm) (.n 2 (.s (decide (r17.1 < 0)) (.n 3 (Gd.z [] true)) (.n 2 (Gd.q r17.1 (.n 5 (Gd.z [] ((bits .and .u8 (Int.fdiv x.2.2 (2 ^ (min (Int.toNat r17.1) (IntKind.bits .u8)))) 1) == 1))))))) (.n 2 (Gd.z [] false)))) (.n 4 (Gd.z [] false)))) (.n 6 (Gd.z [] false)))) (.n 8 (Gd.z [] false)))) (.n 10 (Gd.z [] false))))))) (.n 12 (Gd.z [] false))))))) (.n 14 (Gd.z [] false))))))) (.n 16 (Gd.z [] false))))))) (.n 18 (Gd.z [] false))))))) (.n 20 (Gd.z [] false))))) (fun r49 => (Gd.z [] false)))) (.n 1 (.ll [2, 3, 7, 8, 9, 10, 16, 17, 18, 19, 20] [(0, false), (1, false), (2, true), (3, false), (4, false), (5, false)] [] (lc3_l3 (x.2.2, r2, r17.1, x.1, r17.2.1, r17.2.2, (T_api_Act.mk 3 (IntKind.wrap .u16 (x.1.SP - 1)) (IntKind.wrap .u8 (Int.fdiv x.1.PC (2 ^ 8)))), (T_api_Act.mk 3 (IntKind.wrap .u16 (x.1.SP - 2)) (IntKind.wrap .u8 x.1.PC)))) ((0) : LS3_l3) [NoAddr (List.flatMap T_api_Act.cells r17.2.2)] true (fun _ => ⟨na_flat (fun _ => rfl) _, trivial⟩) LA3_l3 LB3_l3 id id (fun _ => rfl) (fun r44 => (.n 1 (.s r2 (.n 1 (Gd.ae T_api_Act.cells 3 (fun _ => rfl) r17.2.2 0 (Gd.le T_api_Act.cells 3 (T_api_Act.mk 0 0 0) (fun _ => rfl) r17.2.2 (Int.toNat 0) (.n 3 (.s (T_api_Act.eqb (List.getD r17.2.2 (Int.toNat 0) (T_api_Act.mk 0 0 0)) (T_api_Act.mk 0 0 0)) (.n 1 (Gd.ae T_api_Act.cells 3 (fun _ => rfl) r17.2.2 1 (Gd.le T_api_Act.cells 3 (T_api_Act.mk 0 0 0) (fun _ => rfl) r17.2.2 (Int.toNat 1) (.n 3 (.s (T_api_Act.eqb (List.getD r17.2.2 (Int.toNat 1) (T_api_Act.mk 0 0 0)) (T_api_Act.mk 0 0 0)) (.n 1 (Gd.ae T_api_Act.cells 3 (fun _ => rfl) r17.2.2 2 (Gd.le T_api_Act.cells 3 (T_api_Act.mk 0 0 0) (fun _ => rfl) r17.2.2 (Int.toNat 2) (.n 3 (.s (T_api_Act.eqb (List.getD r17.2.2 (Int.toNat 2) (T_api_Act.mk 0 0 0)) (T_api_Act.mk ((T_api_Act.mk 3 (IntKind.wrap .u16 (x.1.SP - 1)) (IntKind.wrap .u8 (Int.fdiv x.1.PC (2 ^ 8)))).Kind) ((T_api_Act.mk 3 (IntKind.wrap .u16 (x.1.SP - 1)) (IntKind.wrap .u8 (Int.fdiv x.1.PC (2 ^ 8)))).Addr) ((T_api_Act.mk 3 (IntKind.wrap .u16 (x.1.SP - 1)) (IntKind.wrap .u8 (Int.fdiv x.1.PC (2 ^ 8)))).Data))) (.n 1 (Gd.ae T_api_Act.cells 3 (fun _ => rfl) r17.2.2 3 (Gd.le T_api_Act.cells 3 (T_api_Act.mk 0 0 0) (fun _ => rfl) r17.2.2 (Int.toNat 3) (.n 3 (.s (T_api_Act.eqb (List.getD r17.2.2 (Int.toNat 3) (T_api_Act.mk 0 0 0)) (T_api_Act.mk ((T_api_Act.mk 3 (IntKind.wrap .u16 (x.1.SP - 2)) (IntKind.wrap .u8 x.1.PC)).Kind) ((T_api_Act.mk 3 (IntKind.wrap .u16 (x.1.SP - 2)) (IntKind.wrap .u8 x.1.PC)).Addr) ((T_api_Act.mk 3 (IntKind.wrap .u16 (x.1.SP - 2)) (IntKind.wrap .u8 x.1.PC)).Data))) (.n 1 (Gd.ae T_api_Act.cells 3 (fun _ => rfl) r17.2.2 4 (Gd.le T_api_Act.cells 3 (T_api_Act.mk 0 0 0) (fun _ => rfl) r17.2.2 (Int.toNat 4) (.n 3 (.s (T_api_Act.eqb (List.getD r17.2.2 (Int.toNat 4) (T_api_Act.mk 0 0 0)) (T_api_Act.mk 0 0 0)) (.n 6 (.s (r17.2.1.R.PC == 0) (.n 8 (.s (r17.2.1.R.SP == (IntKind.wrap .u16 (x.1.SP - 2))) (.n 4 (.s (!r17.2.1.Ime) (.n 4 (.s (!r17.2.1.Arm) (.n 2 (.s (decide (r17.1 < 0)) (.n 3 (Gd.z [] true)) (.n 2 (Gd.q r17.1 (.n 5 (Gd.z [] ((bits .and .u8 (Int.fdiv x.2.2 (2 ^ (min (Int.toNat r17.1) (IntKind.bits .u8)))) 1) == 1))))))) (.n 2 (Gd.z [] false)))) (.n 4 (Gd.z [] false)))) (.n 6 (Gd.z [] false)))) (.n 8 (Gd.z [] false)))) (.n 10 (Gd.z [] false))))))) (.n 12 (Gd.z [] false))))))) (.n 14 (Gd.z [] false))))))) (.n 16 (Gd.z [] false))))))) (.n 18 (Gd.z [] false))))))) (.n 20 (Gd.z [] false))))) (fun r44 => (Gd.z [] false))))))) (fun r17 => (Gd.z [] false)))) (.n 3 (.ll [1, 2, 3, 7, 8, 9, 10, 11] [(0, false), (1, false)] [(10, 31, 3)] (lc3_l4 (x.2.1, x.2.2, r2, x.1)) (((-1), 0, { r5 with Ime := true }, []) : LS3_l4) [] true (fun _ => trivial) LA3_l4 LB3_l4 id id (fun _ => rfl) (fun r16 => (.n 24 (.s (decide (r16.1 ≥ 0)) (.n 6 (.ll [2, 3, 7, 8, 9, 10, 16, 17, 18, 19, 20] [(0, false), (1, false), (2, true), (3, false), (4, false), (5, false)] [] (lc3_l2 (x.2.2, r2, r16.1, (IntKind.wrap .u16 (64 + (IntKind.wrap .u16 (8 * (IntKind.wrap .u16 r16.1))))), x.1, r16.2.1, r16.2.2, (T_api_Act.mk 3 (IntKind.wrap .u16 (x.1.SP - 1)) (IntKind.wrap .u8 (Int.fdiv x.1.PC (2 ^ 8)))), (T_api_Act.mk 3 (IntKind.wrap .u16 (x.1.SP - 2)) (IntKind.wrap .u8 x.1.PC)))) ((0) : LS3_l2) [NoAddr (List.flatMap T_api_Act.cells r16.2.2)] true (fun _ => ⟨na_flat (fun _ => rfl) _, trivial⟩) LA3_l2 LB3_l2 id id (fun _ => rfl) (fun r48 => (.n 1 (.s r2 (.n 1 (Gd.ae T_api_Act.cells 3 (fun _ => rfl) r16.2.2 0 (Gd.le T_api_Act.cells 3 (T_api_Act.mk 0 0 0) (fun _ => rfl) r16.2.2 (Int.toNat 0) (.n 3 (.s (T_api_Act.eqb (List.getD r16.2.2 (Int.toNat 0) (T_api_Act.mk 0 0 0)) (T_api_Act.mk 0 0 0)) (.n 1 (Gd.ae T_api_Act.cells 3 (fun _ => rfl) r16.2.2 1 (Gd.le T_api_Act.cells 3 (T_api_Act.mk 0 0 0) (fun _ => rfl) r16.2.2 (Int.toNat 1) (.n 3 (.s (T_api_Act.eqb (List.getD r16.2.2 (Int.toNat 1) (T_api_Act.mk 0 0 0)) (T_api_Act.mk 0 0 0)) (.n 1 (Gd.ae T_api_Act.cells 3 (fun _ => rfl) r16.2.2 2 (Gd.le T_api_Act.cells 3 (T_api_Act.mk 0 0 0) (fun _ => rfl) r16.2.2 (Int.toNat 2) (.n 3 (.s (T_api_Act.eqb (List.getD r16.2.2 (Int.toNat 2) (T_api_Act.mk 0 0 0)) (T_api_Act.mk ((T_api_Act.mk 3 (IntKind.wrap .u16 (x.1.SP - 1)) (IntKind.wrap .u8 (Int.fdiv x.1.PC (2 ^ 8)))).Kind) ((T_api_Act.mk 3 (IntKind.wrap .u16 (x.1.SP - 1)) (IntKind.wrap .u8 (Int.fdiv x.1.PC (2 ^ 8)))).Addr) ((T_api_Act.mk 3 (IntKind.wrap .u16 (x.1.SP - 1)) (IntKind.wrap .u8 (Int.fdiv x.1.PC (2 ^ 8)))).Data))) (.n 1 (Gd.ae T_api_Act.cells 3 (fun _ => rfl) r16.2.2 3 (Gd.le T_api_Act.cells 3 (T_api_Act.mk 0 0 0) (fun _ => rfl) r16.2.2 (Int.toNat 3) (.n 3 (.s (T_api_Act.eqb (List.getD r16.2.2 (Int.toNat 3) (T_api_Act.mk 0 0 0)) (T_api_Act.mk ((T_api_Act.mk 3 (IntKind.wrap .u16 (x.1.SP - 2)) (IntKind.wrap .u8 x.1.PC)).Kind) ((T_api_Act.mk 3 (IntKind.wrap .u16 (x.1.SP - 2)) (IntKind.wrap .u8 x.1.PC)).Addr) ((T_api_Act.mk 3 (IntKind.wrap .u16 (x.1.SP - 2)) (IntKind.wrap .u8 x.1.PC)).Data))) (.n 1 (Gd.ae T_api_Act.cells 3 (fun _ => rfl) r16.2.2 4 (Gd.le T_api_Act.cells 3 (T_api_Act.mk 0 0 0) (fun _ => rfl) r16.2.2 (Int.toNat 4) (.n 3 (.s (T_api_Act.eqb (List.getD r16.2.2 (Int.toNat 4) (T_api_Act.mk 0 0 0)) (T_api_Act.mk 0 0 0)) (.n 6 (.s (r16.2.1.R.PC == (IntKind.wrap .u16 (64 + (IntKind.wrap .u16 (8 * (IntKind.wrap .u16 r16.1)))))) (.n 8 (.s (r16.2.1.R.SP == (IntKind.wrap .u16 (x.1.SP - 2))) (.n 4 (.s (!r16.2.1.Ime) (.n 4 (.s (!r16.2.1.Arm) (.n 2 (.s (decide (r16.1 < 0)) (.n 3 (Gd.z [] true)) (.n 2 (Gd.q r16.1 (.n 5 (Gd.z [] ((bits .and .u8 (Int.fdiv x.2.2 (2 ^ (min (Int.toNat r16.1) (IntKind.bits .u8)))) 1) == 1))))))) (.n 2 (Gd.z [] false)))) (.n 4 (Gd.z [] false)))) (.n 6 (Gd.z [] false)))) (.n 8 (Gd.z [] false)))) (.n 10 (Gd.z [] false))))))) (.n 12 (Gd.z [] false))))))) (.n 14 (Gd.z [] false))))))) (.n 16 (Gd.z [] false))))))) (.n 18 (Gd.z [] false))))))) (.n 20 (Gd.z [] false))))) (fun r48 => (Gd.z [] false)))) (.n 1 (.ll [2, 3, 7, 8, 9, 10, 16, 17, 18, 19, 20] [(0, false), (1, false), (2, true), (3, false), (4, false), (5, false)] [] (lc3_l3 (x.2.2, r2, r16.1, x.1, r16.2.1, r16.2.2, (T_api_Act.mk 3 (IntKind.wrap .u16 (x.1.SP - 1)) (IntKind.wrap .u8 (Int.fdiv x.1.PC (2 ^ 8)))), (T_api_Act.mk 3 (IntKind.wrap .u16 (x.1.SP - 2)) (IntKind.wrap .u8 x.1.PC)))) ((0) : LS3_l3) [NoAddr (List.flatMap T_api_Act.cells r16.2.2)] true (fun _ => ⟨na_flat (fun _ => rfl) _, trivial⟩) LA3_l3 LB3_l3 id id (fun _ => rfl) (fun r43 => (.n 1 (.s r2 (.n 1 (Gd.ae T_api_Act.cells 3 (fun _ => rfl) r16.2.2 0 (Gd.le T_api_Act.cells 3 (T_api_Act.mk 0 0 0) (fun _ => rfl) r16.2.2 (Int.toNat 0) (.n 3 (.s (T_api_Act.eqb (List.getD r16.2.2 (Int.toNat 0) (T_api_Act.mk 0 0 0)) (T_api_Act.mk 0 0 0)) (.n 1 (Gd.ae T_api_Act.cells 3 (fun _ => rfl) r16.2.2 1 (Gd.le T_api_Act.cells 3 (T_api_Act.mk 0 0 0) (fun _ => rfl) r16.2.2 (Int.toNat 1) (.n 3 (.s (T_api_Act.eqb (List.getD r16.2.2 (Int.toNat 1) (T_api_Act.mk 0 0 0)) (T_api_Act.mk 0 0 0)) (.n 1 (Gd.ae T_api_Act.cells 3 (fun _ => rfl) r16.2.2 2 (Gd.le T_api_Act.cells 3 (T_api_Act.mk 0 0 0) (fun _ => rfl) r16.2.2 (Int.toNat 2) (.n 3 (.s (T_api_Act.eqb (List.getD r16.2.2 (Int.toNat 2) (T_api_Act.mk 0 0 0)) (T_api_Act.mk ((T_api_Act.mk 3 (IntKind.wrap .u16 (x.1.SP - 1)) (IntKind.wrap .u8 (Int.fdiv x.1.PC (2 ^ 8)))).Kind) ((T_api_Act.mk 3 (IntKind.wrap .u16 (x.1.SP - 1)) (IntKind.wrap .u8 (Int.fdiv x.1.PC (2 ^ 8)))).Addr) ((T_api_Act.mk 3 (IntKind.wrap .u16 (x.1.SP - 1)) (IntKind.wrap .u8 (Int.fdiv x.1.PC (2 ^ 8)))).Data))) (.n 1 (Gd.ae T_api_Act.cells 3 (fun _ => rfl) r16.2.2 3 (Gd.le T_api_Act.cells 3 (T_api_Act.mk 0 0 0) (fun _ => rfl) r16.2.2 (Int.toNat 3) (.n 3 (.s (T_api_Act.eqb (List.getD r16.2.2 (Int.toNat 3) (T_api_Act.mk 0 0 0)) (T_api_Act.mk ((T_api_Act.mk 3 (IntKind.wrap .u16 (x.1.SP - 2)) (IntKind.wrap .u8 x.1.PC)).Kind) ((T_api_Act.mk 3 (IntKind.wrap .u16 (x.1.SP - 2)) (IntKind.wrap .u8 x.1.PC)).Addr) ((T_api_Act.mk 3 (IntKind.wrap .u16 (x.1.SP - 2)) (IntKind.wrap .u8 x.1.PC)).Data))) (.n 1 (Gd.ae T_api_Act.cells 3 (fun _ => rfl) r16.2.2 4 (Gd.le T_api_Act.cells 3 (T_api_Act.mk 0 0 0) (fun _ => rfl) r16.2.2 (Int.toNat 4) (.n 3 (.s (T_api_Act.eqb (List.getD r16.2.2 (Int.toNat 4) (T_api_Act.mk 0 0 0)) (T_api_Act.mk 0 0 0)) (.n 6 (.s (r16.2.1.R.PC == 0) (.n 8 (.s (r16.2.1.R.SP == (IntKind.wrap .u16 (x.1.SP - 2))) (.n 4 (.s (!r16.2.1.Ime) (.n 4 (.s (!r16.2.1.Arm) (.n 2 (.s (decide (r16.1 < 0)) (.n 3 (Gd.z [] true)) (.n 2 (Gd.q r16.1 (.n 5 (Gd.z [] ((bits .and .u8 (Int.fdiv x.2.2 (2 ^ (min (Int.toNat r16.1) (IntKind.bits .u8)))) 1) == 1))))))) (.n 2 (Gd.z [] false)))) (.n 4 (Gd.z [] false)))) (.n 6 (Gd.z [] false)))) (.n 8 (Gd.z [] false)))) (.n 10 (Gd.z [] false))))))) (.n 12 (Gd.z [] false))))))) (.n 14 (Gd.z [] false))))))) (.n 16 (Gd.z [] false))))))) (.n 18 (Gd.z [] false))))))) (.n 20 (Gd.z [] false))))) (fun r43 => (Gd.z [] false))))))) (fun r16 => (Gd.z [] false))))))))))
theorem K3 (x : X3) : evF Go.Proofs.Try.prog 3 (A3 x) ((J3 x).map (·.1)) (G3 x) = (G3 x).exp fun y => (V3 y, (H3 x y).map (·.1)) := by kernel_rfl
noncomputable def F3 (x : X3) : Option Y3 := (G3 x).run
@[reducible] noncomputable def c3 : Con Go.Proofs.Try.prog := Con.of mixed 3 true A3 J3 V3 H3 G3 F3 (fun _ => rfl) K3 (fun _ => all_is (by kernel_rfl)) (fun _ _ => all_is (by kernel_rfl))
abbrev LP4_l1 := Bool × Int × Int × Bool × Int × T_api_Regs × T_api_Cpu × T_api_Cpu
abbrev LS4_l1 := Int × T_api_Cpu
abbrev LA4_l1 := T_api_Cpu
abbrev LB4_l1 := Unit
abbrev LY4_l1 := LA4_l1 ⊕ LB4_l1
noncomputable def Lt4_l1 (p : LP4_l1) (x : LS4_l1) : Tm := [(1, (.bool p.1)), (2, (.int .u8 p.2.1)), (3, (.int .u8 p.2.2.1)), (4, (.pointer (some ⟨0, 0, none⟩))), (9, (.bool p.2.2.2.1)), (10, (.pointer (some ⟨1, 0, none⟩))), (11, (.pointer (some ⟨2, 0, none⟩))), (14, (.int .u8 p.2.2.2.2.1)), (15, (.pointer (some ⟨3, 0, none⟩))), (16, (.int .u8 x.1))]
noncomputable def Lh4_l1 (p : LP4_l1) (x : LS4_l1) : Heap := [(.live ⟨T_api_Regs.cells p.2.2.2.2.2.1, true, none⟩), (.live ⟨T_api_Cpu.cells x.2, true, none⟩), (.live ⟨T_api_Cpu.cells p.2.2.2.2.2.2.1, true, none⟩), (.live ⟨T_api_Cpu.cells p.2.2.2.2.2.2.2, true, none⟩)]
noncomputable def Le4_l1 (y : LY4_l1) : Ex := match y with | .inl y => (.exit 0) | .inr y => .ret
noncomputable def Lu4_l1 (p : LP4_l1) (y : LY4_l1) : Tm := match y with | .inl y => [(1, (.bool p.1)), (3, (.int .u8 p.2.2.1)), (4, (.pointer (some ⟨0, 0, none⟩))), (9, (.bool p.2.2.2.1)), (10, (.pointer (some ⟨1, 0, none⟩))), (11, (.pointer (some ⟨2, 0, none⟩))), (14, (.int .u8 p.2.2.2.2.1)), (15, (.pointer (some ⟨3, 0, none⟩)))] | .inr y => [(8, (.bool false))]
noncomputable def Lv4_l1 (p : LP4_l1) (y : LY4_l1) : Heap := match y with | .inl y => [(.live ⟨T_api_Regs.cells p.2.2.2.2.2.1, true, none⟩), (.live ⟨T_api_Cpu.cells y, true, none⟩), (.live ⟨T_api_Cpu.cells p.2.2.2.2.2.2.1, true, none⟩), (.live ⟨T_api_Cpu.cells p.2.2.2.2.2.2.2, true, none⟩)] | .inr y => []
noncomputable def Lk4_l1 : Ex → List Nat := fun e => match e with | .normal => [1, 2, 3, 4, 9, 10, 11, 14, 15, 16] | .ret => [8] | _ => [1, 3, 4, 9, 10, 11, 14, 15]
noncomputable def LG4_l1 (p : LP4_l1) (x : LS4_l1) : Gd Go.Proofs.Try.prog (LS4_l1 ⊕ LY4_l1) :=
  (.n 3 (.s (decide (x.1 < (Int.tmod p.2.1 50))) (.n 1 (.k [] c10 (x.2, 0) fun (r5 : Y10) => (.n 12 (.s (!(T_api_Act.eqb r5.2.1 (T_api_Act.mk 0 0 0))) (.n 2 (Gd.z [] (.inr (.inr ())))) (.n 3 (.s (!(T_api_Cpu.eqb r5.1 x.2)) (.n 1 (Gd.z [] (.inr (.inr ())))) (.n 1 (.k [] c12 (r5.1, 7, 0) fun (r24 : Y12) => (.n 4 (Gd.z [(0, false), (1, false), (2, false), (3, false)] (.inl ((IntKind.wrap .u8 (x.1 + 1)), r24)))))))))))) (Gd.z [(0, false), (1, false), (2, false), (3, false)] (.inr (.inl x.2)))))
theorem LK4_l1 (p : LP4_l1) (x : LS4_l1) : evB Go.Proofs.Try.prog 171 0 (loopOf Go.Proofs.Try.prog 4 0) Lk4_l1 (Lt4_l1 p x) (Lh4_l1 p x) (LG4_l1 p x) = (LG4_l1 p x).exp fun r => match r with | .inl x' => (.normal, Lt4_l1 p x', Lh4_l1 p x') | .inr y => (Le4_l1 y, Lu4_l1 p y, Lv4_l1 p y) := by kernel_rfl
noncomputable def LF4_l1 (p : LP4_l1) (n : Nat) (x : LS4_l1) : Option LY4_l1 := rounds (fun x => (LG4_l1 p x).run) n x
theorem LE4_l1 (y : LY4_l1) : Le4_l1 y ≠ .normal := by cases y <;> (intro h; cases h)
@[reducible] noncomputable def lc4_l1 (p : LP4_l1) : LCon Go.Proofs.Try.prog := LCon.of mixed 171 0 (loopOf Go.Proofs.Try.prog 4 0) Lk4_l1 (Lt4_l1 p) (Lh4_l1 p) Le4_l1 (Lu4_l1 p) (Lv4_l1 p) LE4_l1 (LG4_l1 p) (fun _ => 18446744073709551616) (LF4_l1 p 18446744073709551616) (fun _ => rfl) (LK4_l1 p)
/-- whirligig/whirligiglaw22.CpuHalts -/
abbrev X4 := T_api_Regs × Bool × Int × Int
abbrev Y4 := Bool
noncomputable def A4 (x : X4) : List Value := [(T_api_Regs.v x.1), (.bool x.2.1), (.int .u8 x.2.2.1), (.int .u8 x.2.2.2)]
noncomputable def J4 (x : X4) : List (Sl × Bool) := []
noncomputable def V4 (r : Y4) : Value := (.bool r)
noncomputable def H4 (x : X4) (r : Y4) : List (Sl × Bool) := J4 x
noncomputable def G4 (x : X4) : Gd Go.Proofs.Try.prog Y4 :=
  (.n 2 (.k [] c8 () fun (r2 : Y8) => (.n 2 (.t [] c9 x.1 fun (r5 : Y9) => (.n 3 (.k [] c10 (r5, 0) fun (r9 : Y10) => (.n 17 (.k [] c12 ({ r9.1 with Ime := x.2.1 }, 118, (Int.tmod x.2.2.2 32)) fun (r27 : Y12) => (.n 3 (.k [] c12 ({ r9.1 with Ime := x.2.1 }, 118, 0) fun (r31 : Y12) => (.n 2 (.ll [1, 2, 3, 4, 9, 10, 11, 14, 15, 16] [(0, false), (1, false), (2, false), (4, false)] [] (lc4_l1 (x.2.1, x.2.2.1, x.2.2.2, r2, (Int.tmod x.2.2.2 32), x.1, { r9.1 with Ime := x.2.1 }, r27)) ((0, r31) : LS4_l1) [] true (fun _ => trivial) LA4_l1 LB4_l1 id id (fun _ => rfl) (fun r34 => (.n 3 (.s (r34.Mode != 1) (.n 2 (Gd.z [] false)) (.n 7 (.s (r34.R.PC != (IntKind.wrap .u16 (x.1.PC + 1))) (.n 1 (Gd.z [] false)) (.n 2 (.k [] c10 (r34, x.2.2.2) fun (r49 : Y10) => (.n 11 (.s ((Int.tmod x.2.2.2 32) != 0) (.n 2 (.s x.2.1 (.n 3 (.s (!(T_api_Act.eqb r49.2.1 (T_api_Act.mk 0 0 0))) (.n 7 (Gd.z [] false)) (.n 5 (.s (r49.1.Mode != 4) (.n 4 (Gd.z [] false)) (.n 2 (.s ((Int.tmod x.2.2.2 32) != 0) (.n 3 (.s (!x.2.1) .f (.n 5 (.s ((Int.tmod x.2.2.2 32) == 0) (.n 4 (.s (!(T_api_Cpu.eqb r49.1 r34)) (.n 1 (Gd.z [] false)) (.n 2 (.s ((Int.tmod x.2.2.2 32) == 0) (.n 2 (.s r2 (.n 2 (.k [] c12 ((T_api_Cpu.mk (T_api_Regs.mk (({ r9.1 with Ime := x.2.1 }).R.A) (({ r9.1 with Ime := x.2.1 }).R.F) (({ r9.1 with Ime := x.2.1 }).R.B) (({ r9.1 with Ime := x.2.1 }).R.C) (({ r9.1 with Ime := x.2.1 }).R.D) (({ r9.1 with Ime := x.2.1 }).R.E) (({ r9.1 with Ime := x.2.1 }).R.H) (({ r9.1 with Ime := x.2.1 }).R.L) (({ r9.1 with Ime := x.2.1 }).R.SP) (({ r9.1 with Ime := x.2.1 }).R.PC)) (({ r9.1 with Ime := x.2.1 }).Ime) (({ r9.1 with Ime := x.2.1 }).Arm) (({ r9.1 with Ime := x.2.1 }).Bug) (({ r9.1 with Ime := x.2.1 }).Mode) (({ r9.1 with Ime := x.2.1 }).Op) (({ r9.1 with Ime := x.2.1 }).Cb) (({ r9.1 with Ime := x.2.1 }).Step) (({ r9.1 with Ime := x.2.1 }).Lo) (({ r9.1 with Ime := x.2.1 }).Hi)), 118, 0) fun (r101 : Y12) => (.n 3 (Gd.z [] (T_api_Cpu.eqb r27 r101))))) (.n 2 (Gd.z [] false)))) .f)))) (.n 4 (.s ((Int.tmod x.2.2.2 32) == 0) .f (.n 1 (.s x.2.1 (.n 1 (.s r2 (.n 2 (.k [] c12 ((T_api_Cpu.mk (T_api_Regs.mk (({ r9.1 with Ime := x.2.1 }).R.A) (({ r9.1 with Ime := x.2.1 }).R.F) (({ r9.1 with Ime := x.2.1 }).R.B) (({ r9.1 with Ime := x.2.1 }).R.C) (({ r9.1 with Ime := x.2.1 }).R.D) (({ r9.1 with Ime := x.2.1 }).R.E) (({ r9.1 with Ime := x.2.1 }).R.H) (({ r9.1 with Ime := x.2.1 }).R.L) (({ r9.1 with Ime := x.2.1 }).R.SP) (({ r9.1 with Ime := x.2.1 }).R.PC)) (({ r9.1 with Ime := x.2.1 }).Ime) (({ r9.1 with Ime := x.2.1 }).Arm) (({ r9.1 with Ime := x.2.1 }).Bug) (({ r9.1 with Ime := x.2.1 }).Mode) (({ r9.1 with Ime := x.2.1 }).Op) (({ r9.1 with Ime := x.2.1 }).Cb) (({ r9.1 with Ime := x.2.1 }).Step) (({ r9.1 with Ime := x.2.1 }).Lo) (({ r9.1 with Ime := x.2.1 }).Hi)), 118, 0) fun (r99 : Y12) => (.n 3 (Gd.z [] (T_api_Cpu.eqb r27 r99))))) (.n 2 (Gd.z [] false)))) .f)))))))) .f)))))) (.n 4 (.s ((Int.tmod x.2.2.2 32) != 0) (.n 3 (.s (!x.2.1) (.n 5 (.s (r49.2.1.Kind != 1) (.n 2 (Gd.z [] false)) (.n 2 (.s ((Int.tmod x.2.2.2 32) == 0) (.n 4 (.s (!(T_api_Cpu.eqb r49.1 r34)) (.n 1 (Gd.z [] false)) (.n 2 (.s ((Int.tmod x.2.2.2 32) == 0) (.n 2 (.s r2 (.n 2 (.k [] c12 ((T_api_Cpu.mk (T_api_Regs.mk (({ r9.1 with Ime := x.2.1 }).R.A) (({ r9.1 with Ime := x.2.1 }).R.F) (({ r9.1 with Ime := x.2.1 }).R.B) (({ r9.1 with Ime := x.2.1 }).R.C) (({ r9.1 with Ime := x.2.1 }).R.D) (({ r9.1 with Ime := x.2.1 }).R.E) (({ r9.1 with Ime := x.2.1 }).R.H) (({ r9.1 with Ime := x.2.1 }).R.L) (({ r9.1 with Ime := x.2.1 }).R.SP) (({ r9.1 with Ime := x.2.1 }).R.PC)) (({ r9.1 with Ime := x.2.1 }).Ime) (({ r9.1 with Ime := x.2.1 }).Arm) (({ r9.1 with Ime := x.2.1 }).Bug) (({ r9.1 with Ime := x.2.1 }).Mode) (({ r9.1 with Ime := x.2.1 }).Op) (({ r9.1 with Ime := x.2.1 }).Cb) (({ r9.1 with Ime := x.2.1 }).Step) (({ r9.1 with Ime := x.2.1 }).Lo) (({ r9.1 with Ime := x.2.1 }).Hi)), 118, 0) fun (r96 : Y12) => (.n 3 (Gd.z [] (T_api_Cpu.eqb r27 r96))))) (.n 2 (Gd.z [] false)))) .f)))) (.n 4 (.s ((Int.tmod x.2.2.2 32) == 0) .f (.n 1 (.s x.2.1 .f (.n 1 (.k [] c10 (r27, 0) fun (r91 : Y10) => (.n 10 (.k [] c12 (r91.1, 0, 0) fun (r102 : Y12) => (.n 3 (.s r2 (.n 4 (.s (r27.Mode == 0) (.n 7 (.s (T_api_Act.eqb r91.2.1 (T_api_Act.mk 1 (IntKind.wrap .u16 (x.1.PC + 1)) 0)) (.n 8 (.s (r102.R.PC == (IntKind.wrap .u16 (x.1.PC + 1))) (.n 5 (Gd.z [] (!r102.Bug))) (.n 2 (Gd.z [] false)))) (.n 4 (Gd.z [] false)))) (.n 6 (Gd.z [] false)))) (.n 8 (Gd.z [] false)))))))))))))))) .f)) .f)))) (.n 6 (.s ((Int.tmod x.2.2.2 32) != 0) .f (.n 7 (.s ((Int.tmod x.2.2.2 32) == 0) (.n 4 (.s (!(T_api_Cpu.eqb r49.1 r34)) (.n 1 (Gd.z [] false)) (.n 2 (.s ((Int.tmod x.2.2.2 32) == 0) (.n 2 (.s r2 (.n 2 (.k [] c12 ((T_api_Cpu.mk (T_api_Regs.mk (({ r9.1 with Ime := x.2.1 }).R.A) (({ r9.1 with Ime := x.2.1 }).R.F) (({ r9.1 with Ime := x.2.1 }).R.B) (({ r9.1 with Ime := x.2.1 }).R.C) (({ r9.1 with Ime := x.2.1 }).R.D) (({ r9.1 with Ime := x.2.1 }).R.E) (({ r9.1 with Ime := x.2.1 }).R.H) (({ r9.1 with Ime := x.2.1 }).R.L) (({ r9.1 with Ime := x.2.1 }).R.SP) (({ r9.1 with Ime := x.2.1 }).R.PC)) (({ r9.1 with Ime := x.2.1 }).Ime) (({ r9.1 with Ime := x.2.1 }).Arm) (({ r9.1 with Ime := x.2.1 }).Bug) (({ r9.1 with Ime := x.2.1 }).Mode) (({ r9.1 with Ime := x.2.1 }).Op) (({ r9.1 with Ime := x.2.1 }).Cb) (({ r9.1 with Ime := x.2.1 }).Step) (({ r9.1 with Ime := x.2.1 }).Lo) (({ r9.1 with Ime := x.2.1 }).Hi)), 118, 0) fun (r90 : Y12) => (.n 3 (Gd.z [] (T_api_Cpu.eqb r27 r90))))) (.n 2 (Gd.z [] false)))) .f)))) (.n 4 (.s ((Int.tmod x.2.2.2 32) == 0) .f (.n 1 (.s x.2.1 (.n 1 (.s r2 (.n 2 (.k [] c12 ((T_api_Cpu.mk (T_api_Regs.mk (({ r9.1 with Ime := x.2.1 }).R.A) (({ r9.1 with Ime := x.2.1 }).R.F) (({ r9.1 with Ime := x.2.1 }).R.B) (({ r9.1 with Ime := x.2.1 }).R.C) (({ r9.1 with Ime := x.2.1 }).R.D) (({ r9.1 with Ime := x.2.1 }).R.E) (({ r9.1 with Ime := x.2.1 }).R.H) (({ r9.1 with Ime := x.2.1 }).R.L) (({ r9.1 with Ime := x.2.1 }).R.SP) (({ r9.1 with Ime := x.2.1 }).R.PC)) (({ r9.1 with Ime := x.2.1 }).Ime) (({ r9.1 with Ime := x.2.1 }).Arm) (({ r9.1 with Ime := x.2.1 }).Bug) (({ r9.1 with Ime := x.2.1 }).Mode) (({ r9.1 with Ime := x.2.1 }).Op) (({ r9.1 with Ime := x.2.1 }).Cb) (({ r9.1 with Ime := x.2.1 }).Step) (({ r9.1 with Ime := x.2.1 }).Lo) (({ r9.1 with Ime := x.2.1 }).Hi)), 118, 0) fun (r88 : Y12) => (.n 3 (Gd.z [] (T_api_Cpu.eqb r27 r88))))) (.n 2 (Gd.z [] false)))) (.n 1 (.k [] c10 (r27, 0) fun (r85 : Y10) => (.n 10 (.k [] c12 (r85.1, 0, 0) fun (r96 : Y12) => (.n 3 (.s r2 (.n 4 (.s (r27.Mode == 0) (.n 7 (.s (T_api_Act.eqb r85.2.1 (T_api_Act.mk 1 (IntKind.wrap .u16 (x.1.PC + 1)) 0)) (.n 8 (.s (r96.R.PC == (IntKind.wrap .u16 (x.1.PC + 1))) (.n 5 (Gd.z [] (!r96.Bug))) (.n 2 (Gd.z [] false)))) (.n 4 (Gd.z [] false)))) (.n 6 (Gd.z [] false)))) (.n 8 (Gd.z [] false))))))))))))))))))))))))) (fun r34 => (Gd.z [] false))))))))))))))
theorem K4 (x : X4) : evF Go.Proofs.Try.prog 4 (A4 x) ((J4 x).map (·.1)) (G4 x) = (G4 x).exp fun y => (V4 y, (H4 x y).map (·.1)) := by kernel_rfl
noncomputable def F4 (x : X4) : Option Y4 := (G4 x).run
@[reducible] noncomputable def c4 : Con Go.Proofs.Try.prog := Con.of mixed 4 true A4 J4 V4 H4 G4 F4 (fun _ => rfl) K4 (fun _ => all_is (by kernel_rfl)) (fun _ _ => all_is (by kernel_rfl))
/-- whirligig/whirligiglaw22.CpuArms -/
abbrev X5 := T_api_Regs × Int
abbrev Y5 := Bool
noncomputable def A5 (x : X5) : List Value := [(T_api_Regs.v x.1), (.int .u8 x.2)]
noncomputable def J5 (x : X5) : List (Sl × Bool) := []
noncomputable def V5 (r : Y5) : Value := (.bool r)
noncomputable def H5 (x : X5) (r : Y5) : List (Sl × Bool) := J5 x
noncomputable def G5 (x : X5) : Gd Go.Proofs.Try.prog Y5 :=
  (.n 2 (.k [] c8 () fun (r2 : Y8) => (.n 3 (.s ((Int.tmod x.2 32) == 0) (.n 2 (.t [] c9 x.1 fun (r9 : Y9) => (.n 1 (.k [] c10 (r9, 4) fun (r11 : Y10) => (.n 11 (.k [] c12 (r11.1, 251, 4) fun (r23 : Y12) => (.n 4 (.k [] c10 (r23, 4) fun (r28 : Y10) => (.n 11 (.k [] c12 (r28.1, 0, 4) fun (r40 : Y12) => (.n 4 (.k [] c10 (r40, 4) fun (r45 : Y10) => (.n 11 (.k [] c12 (r28.1, 243, 4) fun (r57 : Y12) => (.n 4 (.k [] c10 (r57, 4) fun (r62 : Y10) => (.n 10 (.s r2 (.n 4 (.s (!r23.Ime) (.n 4 (.s (r28.2.1.Kind == 1) (.n 4 (.s (T_api_Act.eqb r45.2.1 (T_api_Act.mk 0 0 0)) (.n 4 (.s (r45.1.Mode == 4) (.n 4 (.s (r62.2.1.Kind == 1) (.n 4 (.s (!r62.1.Ime) (.n 5 (Gd.z [] (r62.1.Mode == 0))) (.n 2 (Gd.z [] false)))) (.n 4 (Gd.z [] false)))) (.n 6 (Gd.z [] false)))) (.n 8 (Gd.z [] false)))) (.n 10 (Gd.z [] false)))) (.n 12 (Gd.z [] false)))) (.n 14 (Gd.z [] false)))))))))))))))))))) (.n 1 (.t [] c9 x.1 fun (r8 : Y9) => (.n 1 (.k [] c10 (r8, x.2) fun (r10 : Y10) => (.n 11 (.k [] c12 (r10.1, 251, x.2) fun (r22 : Y12) => (.n 4 (.k [] c10 (r22, x.2) fun (r27 : Y10) => (.n 11 (.k [] c12 (r27.1, 0, x.2) fun (r39 : Y12) => (.n 4 (.k [] c10 (r39, x.2) fun (r44 : Y10) => (.n 11 (.k [] c12 (r27.1, 243, x.2) fun (r56 : Y12) => (.n 4 (.k [] c10 (r56, x.2) fun (r61 : Y10) => (.n 10 (.s r2 (.n 4 (.s (!r22.Ime) (.n 4 (.s (r27.2.1.Kind == 1) (.n 4 (.s (T_api_Act.eqb r44.2.1 (T_api_Act.mk 0 0 0)) (.n 4 (.s (r44.1.Mode == 4) (.n 4 (.s (r61.2.1.Kind == 1) (.n 4 (.s (!r61.1.Ime) (.n 5 (Gd.z [] (r61.1.Mode == 0))) (.n 2 (Gd.z [] false)))) (.n 4 (Gd.z [] false)))) (.n 6 (Gd.z [] false)))) (.n 8 (Gd.z [] false)))) (.n 10 (Gd.z [] false)))) (.n 12 (Gd.z [] false)))) (.n 14 (Gd.z [] false))))))))))))))))))))))))
theorem K5 (x : X5) : evF Go.Proofs.Try.prog 5 (A5 x) ((J5 x).map (·.1)) (G5 x) = (G5 x).exp fun y => (V5 y, (H5 x y).map (·.1)) := by kernel_rfl
noncomputable def F5 (x : X5) : Option Y5 := (G5 x).run
@[reducible] noncomputable def c5 : Con Go.Proofs.Try.prog := Con.of mixed 5 true A5 J5 V5 H5 G5 F5 (fun _ => rfl) K5 (fun _ => all_is (by kernel_rfl)) (fun _ _ => all_is (by kernel_rfl))
/-- whirligig/opcode.Illegal -/
abbrev X13 := Int
abbrev Y13 := Bool
noncomputable def A13 (x : X13) : List Value := [(.int .u8 x)]
noncomputable def J13 (x : X13) : List (Sl × Bool) := []
noncomputable def V13 (r : Y13) : Value := (.bool r)
noncomputable def H13 (x : X13) (r : Y13) : List (Sl × Bool) := J13 x
noncomputable def G13 (x : X13) : Gd Go.Proofs.Try.prog Y13 :=
  (.n 2 (.k [] c15 x fun (r2 : Y15) => (.n 3 (Gd.z [] (r2.Kind == 5)))))
theorem K13 (x : X13) : evF Go.Proofs.Try.prog 13 (A13 x) ((J13 x).map (·.1)) (G13 x) = (G13 x).exp fun y => (V13 y, (H13 x y).map (·.1)) := by kernel_rfl
noncomputable def F13 (x : X13) : Option Y13 := (G13 x).run
@[reducible] noncomputable def c13 : Con Go.Proofs.Try.prog := Con.of mixed 13 true A13 J13 V13 H13 G13 F13 (fun _ => rfl) K13 (fun _ => all_is (by kernel_rfl)) (fun _ _ => all_is (by kernel_rfl))
abbrev LP6_l1 := Bool × List T_whirligiglaw22_Came × Bool × Option (Nat × Nat) × T_api_Regs × T_api_Cpu
abbrev LS6_l1 := Int
abbrev LA6_l1 := Unit
abbrev LB6_l1 := Unit
abbrev LY6_l1 := LA6_l1 ⊕ LB6_l1
noncomputable def Lt6_l1 (p : LP6_l1) (x : LS6_l1) : Tm := [(3, (.slice (some ⟨0, 0, none⟩) (List.length p.2.1) 0)), (4, (.pointer (some ⟨1, 0, none⟩))), (9, (.bool p.1)), (10, (.pointer (some ⟨2, 0, none⟩))), (14, (.int .i64 x))]
noncomputable def Lh6_l1 (p : LP6_l1) (x : LS6_l1) : Heap := [(.live ⟨List.flatMap T_whirligiglaw22_Came.cells p.2.1, p.2.2.1, p.2.2.2.1⟩), (.live ⟨T_api_Regs.cells p.2.2.2.2.1, true, none⟩), (.live ⟨T_api_Cpu.cells p.2.2.2.2.2, true, none⟩)]
noncomputable def Le6_l1 (y : LY6_l1) : Ex := match y with | .inl y => (.exit 0) | .inr y => .ret
noncomputable def Lu6_l1 (p : LP6_l1) (y : LY6_l1) : Tm := match y with | .inl y => [(4, (.pointer (some ⟨1, 0, none⟩))), (9, (.bool p.1)), (10, (.pointer (some ⟨2, 0, none⟩)))] | .inr y => [(8, (.bool false))]
noncomputable def Lv6_l1 (p : LP6_l1) (y : LY6_l1) : Heap := match y with | .inl y => [(.live ⟨List.flatMap T_whirligiglaw22_Came.cells p.2.1, p.2.2.1, p.2.2.2.1⟩), (.live ⟨T_api_Regs.cells p.2.2.2.2.1, true, none⟩), (.live ⟨T_api_Cpu.cells p.2.2.2.2.2, true, none⟩)] | .inr y => [(.live ⟨List.flatMap T_whirligiglaw22_Came.cells p.2.1, p.2.2.1, p.2.2.2.1⟩)]
noncomputable def Lk6_l1 : Ex → List Nat := fun e => match e with | .normal => [3, 4, 9, 10, 14] | .ret => [8] | _ => [4, 9, 10]
noncomputable def LG6_l1 (p : LP6_l1) (x : LS6_l1) : Gd Go.Proofs.Try.prog (LS6_l1 ⊕ LY6_l1) :=
  (.n 3 (.s (decide (x < (((List.length p.2.1) : Nat) : Int))) (.n 3 (Gd.ae T_whirligiglaw22_Came.cells 2 (fun _ => rfl) p.2.1 x (.n 1 (Gd.lf T_whirligiglaw22_Came.cells 2 1 (T_whirligiglaw22_Came.mk 0 0) (fun _ => rfl) (fun y => (.int .u8 y.Pending)) (fun _ => rfl) p.2.1 (Int.toNat x) (.k [] c10 ((p.2.2.2.2.2, (List.getD p.2.1 (Int.toNat x) (T_whirligiglaw22_Came.mk 0 0)).Pending) : X10) fun (r10 : Y10) => (.n 12 (.s (!(T_api_Act.eqb r10.2.1 (T_api_Act.mk 0 0 0))) (.n 6 (.e [(0, true)] [NoAddr (List.flatMap T_whirligiglaw22_Came.cells p.2.1)] true (fun _ => ⟨na_flat (fun _ => rfl) _, trivial⟩) (.inr (.inr ())))) (.n 3 (.s (r10.2.2 != (-1)) (.n 4 (.e [(0, true)] [NoAddr (List.flatMap T_whirligiglaw22_Came.cells p.2.1)] true (fun _ => ⟨na_flat (fun _ => rfl) _, trivial⟩) (.inr (.inr ())))) (.n 4 (.s (!(T_api_Cpu.eqb r10.1 p.2.2.2.2.2)) (.n 2 (.e [(0, true)] [NoAddr (List.flatMap T_whirligiglaw22_Came.cells p.2.1)] true (fun _ => ⟨na_flat (fun _ => rfl) _, trivial⟩) (.inr (.inr ())))) (.n 3 (Gd.ae T_whirligiglaw22_Came.cells 2 (fun _ => rfl) p.2.1 x (.n 1 (Gd.lf T_whirligiglaw22_Came.cells 2 0 (T_whirligiglaw22_Came.mk 0 0) (fun _ => rfl) (fun y => (.int .u8 y.Data)) (fun _ => rfl) p.2.1 (Int.toNat x) (.n 2 (Gd.ae T_whirligiglaw22_Came.cells 2 (fun _ => rfl) p.2.1 x (.n 1 (Gd.lf T_whirligiglaw22_Came.cells 2 1 (T_whirligiglaw22_Came.mk 0 0) (fun _ => rfl) (fun y => (.int .u8 y.Pending)) (fun _ => rfl) p.2.1 (Int.toNat x) (.k [] c12 ((r10.1, (List.getD p.2.1 (Int.toNat x) (T_whirligiglaw22_Came.mk 0 0)).Data, (List.getD p.2.1 (Int.toNat x) (T_whirligiglaw22_Came.mk 0 0)).Pending) : X12) fun (r44 : Y12) => (.n 2 (.s (!(T_api_Cpu.eqb r44 p.2.2.2.2.2)) (.n 1 (.e [(0, true)] [NoAddr (List.flatMap T_whirligiglaw22_Came.cells p.2.1)] true (fun _ => ⟨na_flat (fun _ => rfl) _, trivial⟩) (.inr (.inr ())))) (.n 3 (.e [(0, true), (1, false), (2, false)] [NoAddr (List.flatMap T_whirligiglaw22_Came.cells p.2.1)] true (fun _ => ⟨na_flat (fun _ => rfl) _, trivial⟩) (.inl (IntKind.wrap .i64 (x + 1))))))))))))))))))))))))))) (.e [(0, true), (1, false), (2, false)] [NoAddr (List.flatMap T_whirligiglaw22_Came.cells p.2.1)] true (fun _ => ⟨na_flat (fun _ => rfl) _, trivial⟩) (.inr (.inl ())))))
theorem LK6_l1 (p : LP6_l1) (x : LS6_l1) : evB Go.Proofs.Try.prog 106 1 (loopOf Go.Proofs.Try.prog 6 0) Lk6_l1 (Lt6_l1 p x) (Lh6_l1 p x) (LG6_l1 p x) = (LG6_l1 p x).exp fun r => match r with | .inl x' => (.normal, Lt6_l1 p x', Lh6_l1 p x') | .inr y => (Le6_l1 y, Lu6_l1 p y, Lv6_l1 p y) := by kernel_rfl
noncomputable def LF6_l1 (p : LP6_l1) (n : Nat) (x : LS6_l1) : Option LY6_l1 := rounds (fun x => (LG6_l1 p x).run) n x
theorem LE6_l1 (y : LY6_l1) : Le6_l1 y ≠ .normal := by cases y <;> (intro h; cases h)
@[reducible] noncomputable def lc6_l1 (p : LP6_l1) : LCon Go.Proofs.Try.prog := LCon.of mixed 106 1 (loopOf Go.Proofs.Try.prog 6 0) Lk6_l1 (Lt6_l1 p) (Lh6_l1 p) Le6_l1 (Lu6_l1 p) (Lv6_l1 p) LE6_l1 (LG6_l1 p) (fun _ => 18446744073709551616) (LF6_l1 p 18446744073709551616) (fun _ => rfl) (LK6_l1 p)
/-- whirligig/whirligiglaw22.CpuLocks -/
abbrev X6 := T_api_Regs × Int × Bool × Bool × Option (Nat × Nat) × List T_whirligiglaw22_Came
abbrev Y6 := Bool
noncomputable def A6 (x : X6) : List Value := [(T_api_Regs.v x.1), (.int .u8 x.2.1), (.bool x.2.2.1), (.slice (some ⟨0, 0, none⟩) (List.length x.2.2.2.2.2) 0)]
noncomputable def J6 (x : X6) : List (Sl × Bool) := [(.live ⟨List.flatMap T_whirligiglaw22_Came.cells x.2.2.2.2.2, x.2.2.2.1, x.2.2.2.2.1⟩, true)]
noncomputable def V6 (r : Y6) : Value := (.bool r)
noncomputable def H6 (x : X6) (r : Y6) : List (Sl × Bool) := J6 x
noncomputable def G6 (x : X6) : Gd Go.Proofs.Try.prog Y6 :=
  (.n 2 (.k [] c8 () fun (r2 : Y8) => (.n 2 (.t [] c9 x.1 fun (r5 : Y9) => (.n 3 (.k [] c10 (r5, 0) fun (r9 : Y10) => (.n 11 (.k [] c12 (r9.1, x.2.1, 0) fun (r21 : Y12) => (.n 2 (.k [] c13 x.2.1 fun (r24 : Y13) => (.s (!r24) (.n 1 (.s r2 (.n 4 (.s (r21.Mode != 3) (.n 5 (.e [(0, true)] [NoAddr (List.flatMap T_whirligiglaw22_Came.cells x.2.2.2.2.2)] true (fun _ => ⟨na_flat (fun _ => rfl) _, trivial⟩) (r9.2.1.Kind == 1))) (.n 2 (.e [(0, true)] [NoAddr (List.flatMap T_whirligiglaw22_Came.cells x.2.2.2.2.2)] true (fun _ => ⟨na_flat (fun _ => rfl) _, trivial⟩) false)))) (.n 4 (.e [(0, true)] [NoAddr (List.flatMap T_whirligiglaw22_Came.cells x.2.2.2.2.2)] true (fun _ => ⟨na_flat (fun _ => rfl) _, trivial⟩) false)))) (.n 4 (.ll [3, 4, 9, 10, 14] [(0, true), (1, false), (2, false)] [] (lc6_l1 (r2, x.2.2.2.2.2, x.2.2.2.1, x.2.2.2.2.1, x.1, { r21 with Ime := x.2.2.1 })) ((0) : LS6_l1) [NoAddr (List.flatMap T_whirligiglaw22_Came.cells x.2.2.2.2.2)] true (fun _ => ⟨na_flat (fun _ => rfl) _, trivial⟩) LA6_l1 LB6_l1 id id (fun _ => rfl) (fun r30 => (.n 1 (.s r2 (.n 4 (.s (({ r21 with Ime := x.2.2.1 }).Mode == 3) (.n 9 (.e [(0, true)] [NoAddr (List.flatMap T_whirligiglaw22_Came.cells x.2.2.2.2.2)] true (fun _ => ⟨na_flat (fun _ => rfl) _, trivial⟩) (({ r21 with Ime := x.2.2.1 }).R.PC == (IntKind.wrap .u16 (x.1.PC + 1))))) (.n 2 (.e [(0, true)] [NoAddr (List.flatMap T_whirligiglaw22_Came.cells x.2.2.2.2.2)] true (fun _ => ⟨na_flat (fun _ => rfl) _, trivial⟩) false)))) (.n 4 (.e [(0, true)] [NoAddr (List.flatMap T_whirligiglaw22_Came.cells x.2.2.2.2.2)] true (fun _ => ⟨na_flat (fun _ => rfl) _, trivial⟩) false))))) (fun r30 => (.e [(0, true)] [NoAddr (List.flatMap T_whirligiglaw22_Came.cells x.2.2.2.2.2)] true (fun _ => ⟨na_flat (fun _ => rfl) _, trivial⟩) false)))))))))))))))
theorem K6 (x : X6) : evF Go.Proofs.Try.prog 6 (A6 x) ((J6 x).map (·.1)) (G6 x) = (G6 x).exp fun y => (V6 y, (H6 x y).map (·.1)) := by kernel_rfl
theorem NJ6 (x : X6) : All (nad (J6 x)) := ⟨na_flat (fun _ => rfl) _, trivial⟩
noncomputable def F6 (x : X6) : Option Y6 := (G6 x).run
@[reducible] noncomputable def c6 : Con Go.Proofs.Try.prog := Con.of mixed 6 true A6 J6 V6 H6 G6 F6 (fun _ => rfl) K6 NJ6 (fun x _ => NJ6 x)
abbrev LP14_l1 := List Int × Bool × Option (Nat × Nat)
abbrev LS14_l1 := Int × Int × T_api_Cpu × List T_api_Act
abbrev LY14_l1 := Int × T_api_Cpu × List T_api_Act
noncomputable def Lt14_l1 (p : LP14_l1) (x : LS14_l1) : Tm := [(1, (.slice (some ⟨0, 0, none⟩) (List.length p.1) 0)), (2, (.pointer (some ⟨1, 0, none⟩))), (4, (.pointer (some ⟨2, 0, none⟩))), (7, (.slice (some ⟨3, 0, none⟩) (List.length x.2.2.2) 0)), (8, (.int .i64 x.1)), (9, (.int .i64 x.2.1))]
noncomputable def Lh14_l1 (p : LP14_l1) (x : LS14_l1) : Heap := [(.live ⟨List.flatMap (uc .u8) p.1, p.2.1, p.2.2⟩), (.live ⟨T_api_Cpu.cells x.2.2.1, true, none⟩), (.live ⟨[(.int .u8 0), (.int .u8 0), (.int .u8 0), (.int .u8 0), (.int .u8 0), (.int .u8 0), (.int .u8 0), (.int .u8 0), (.int .u16 0), (.int .u16 0), (.bool false), (.bool false), (.bool false), (.int .u8 0), (.int .u8 0), (.bool false), (.int .u8 0), (.int .u8 0), (.int .u8 0)], true, none⟩), (.live ⟨List.flatMap T_api_Act.cells x.2.2.2, true, some (31, 3)⟩)]
noncomputable def Le14_l1 (y : LY14_l1) : Ex := (.exit 0)
noncomputable def Lu14_l1 (p : LP14_l1) (y : LY14_l1) : Tm := [(2, (.pointer (some ⟨1, 0, none⟩))), (4, (.pointer (some ⟨2, 0, none⟩))), (7, (.slice (some ⟨3, 0, none⟩) (List.length y.2.2) 0)), (9, (.int .i64 y.1))]
noncomputable def Lv14_l1 (p : LP14_l1) (y : LY14_l1) : Heap := [(.live ⟨List.flatMap (uc .u8) p.1, p.2.1, p.2.2⟩), (.live ⟨T_api_Cpu.cells y.2.1, true, none⟩), (.live ⟨[(.int .u8 0), (.int .u8 0), (.int .u8 0), (.int .u8 0), (.int .u8 0), (.int .u8 0), (.int .u8 0), (.int .u8 0), (.int .u16 0), (.int .u16 0), (.bool false), (.bool false), (.bool false), (.int .u8 0), (.int .u8 0), (.bool false), (.int .u8 0), (.int .u8 0), (.int .u8 0)], true, none⟩), (.live ⟨List.flatMap T_api_Act.cells y.2.2, true, some (31, 3)⟩)]
noncomputable def Lk14_l1 : Ex → List Nat := fun e => match e with | .normal => [1, 2, 4, 7, 8, 9] | _ => [2, 4, 7, 9]
noncomputable def LG14_l1 (p : LP14_l1) (x : LS14_l1) : Gd Go.Proofs.Try.prog (LS14_l1 ⊕ LY14_l1) :=
  (.n 1 (.s (decide (x.2.1 < 8)) (.n 1 (.k [] c10 (x.2.2.1, 0) fun (r3 : Y10) => (.n 13 (.s (r3.2.1.Kind == 1) (.n 4 (.s (decide (x.1 < (((List.length p.1) : Nat) : Int))) (.n 2 (Gd.ae (uc .u8) 1 (fun _ => rfl) p.1 x.1 (Gd.li .u8 p.1 (Int.toNat x.1) (.n 9 (.s (r3.2.1.Kind != 0) (.n 3 (Gd.ap T_api_Act.cells 3 16 (fun _ => rfl) x.2.2.2 [{ r3.2.1 with Data := (List.getD p.1 (Int.toNat x.1) 0) }] [(.int .i64 r3.2.1.Kind), (.int .u16 r3.2.1.Addr), (.int .u8 (List.getD p.1 (Int.toNat x.1) 0))] 0 1 7 rfl rfl (.n 3 (.k [] c12 ((r3.1, (List.getD p.1 (Int.toNat x.1) 0), 0) : X12) fun (r44 : Y12) => (.n 5 (.k [] c11 r44 fun (r50 : Y11) => (.s (!r50) (.e [(0, true), (1, false), (2, false), (7, true)] [NoAddr (List.flatMap (uc .u8) p.1), NoAddr (List.flatMap T_api_Act.cells (x.2.2.2 ++ [{ r3.2.1 with Data := (List.getD p.1 (Int.toNat x.1) 0) }]))] true (fun _ => ⟨na_flat (fun _ => rfl) _, ⟨na_flat (fun _ => rfl) _, trivial⟩⟩) (.inr ((IntKind.wrap .i64 (x.2.1 + 1)), r44, (x.2.2.2 ++ [{ r3.2.1 with Data := (List.getD p.1 (Int.toNat x.1) 0) }])))) (.e [(0, true), (1, false), (2, false), (7, true)] [NoAddr (List.flatMap (uc .u8) p.1), NoAddr (List.flatMap T_api_Act.cells (x.2.2.2 ++ [{ r3.2.1 with Data := (List.getD p.1 (Int.toNat x.1) 0) }]))] true (fun _ => ⟨na_flat (fun _ => rfl) _, ⟨na_flat (fun _ => rfl) _, trivial⟩⟩) (.inl ((IntKind.wrap .i64 (x.1 + 1)), (IntKind.wrap .i64 (x.2.1 + 1)), r44, (x.2.2.2 ++ [{ r3.2.1 with Data := (List.getD p.1 (Int.toNat x.1) 0) }]))))))))))) (.n 2 (.k [] c12 ((r3.1, (List.getD p.1 (Int.toNat x.1) 0), 0) : X12) fun (r39 : Y12) => (.n 5 (.k [] c11 r39 fun (r45 : Y11) => (.s (!r45) (.e [(0, true), (1, false), (2, false), (3, true)] [NoAddr (List.flatMap (uc .u8) p.1), NoAddr (List.flatMap T_api_Act.cells x.2.2.2)] true (fun _ => ⟨na_flat (fun _ => rfl) _, ⟨na_flat (fun _ => rfl) _, trivial⟩⟩) (.inr ((IntKind.wrap .i64 (x.2.1 + 1)), r39, x.2.2.2))) (.e [(0, true), (1, false), (2, false), (3, true)] [NoAddr (List.flatMap (uc .u8) p.1), NoAddr (List.flatMap T_api_Act.cells x.2.2.2)] true (fun _ => ⟨na_flat (fun _ => rfl) _, ⟨na_flat (fun _ => rfl) _, trivial⟩⟩) (.inl ((IntKind.wrap .i64 (x.1 + 1)), (IntKind.wrap .i64 (x.2.1 + 1)), r39, x.2.2.2))))))))))))) (.n 8 (.s (r3.2.1.Kind != 0) (.n 3 (Gd.ap T_api_Act.cells 3 16 (fun _ => rfl) x.2.2.2 [{ r3.2.1 with Data := 0 }] [(.int .i64 r3.2.1.Kind), (.int .u16 r3.2.1.Addr), (.int .u8 0)] 0 1 7 rfl rfl (.n 3 (.k [] c12 (r3.1, 0, 0) fun (r39 : Y12) => (.n 5 (.k [] c11 r39 fun (r45 : Y11) => (.s (!r45) (.e [(0, true), (1, false), (2, false), (7, true)] [NoAddr (List.flatMap (uc .u8) p.1), NoAddr (List.flatMap T_api_Act.cells (x.2.2.2 ++ [{ r3.2.1 with Data := 0 }]))] true (fun _ => ⟨na_flat (fun _ => rfl) _, ⟨na_flat (fun _ => rfl) _, trivial⟩⟩) (.inr ((IntKind.wrap .i64 (x.2.1 + 1)), r39, (x.2.2.2 ++ [{ r3.2.1 with Data := 0 }])))) (.e [(0, true), (1, false), (2, false), (7, true)] [NoAddr (List.flatMap (uc .u8) p.1), NoAddr (List.flatMap T_api_Act.cells (x.2.2.2 ++ [{ r3.2.1 with Data := 0 }]))] true (fun _ => ⟨na_flat (fun _ => rfl) _, ⟨na_flat (fun _ => rfl) _, trivial⟩⟩) (.inl ((IntKind.wrap .i64 (x.1 + 1)), (IntKind.wrap .i64 (x.2.1 + 1)), r39, (x.2.2.2 ++ [{ r3.2.1 with Data := 0 }]))))))))))) (.n 2 (.k [] c12 (r3.1, 0, 0) fun (r34 : Y12) => (.n 5 (.k [] c11 r34 fun (r40 : Y11) => (.s (!r40) (.e [(0, true), (1, false), (2, false), (3, true)] [NoAddr (List.flatMap (uc .u8) p.1), NoAddr (List.flatMap T_api_Act.cells x.2.2.2)] true (fun _ => ⟨na_flat (fun _ => rfl) _, ⟨na_flat (fun _ => rfl) _, trivial⟩⟩) (.inr ((IntKind.wrap .i64 (x.2.1 + 1)), r34, x.2.2.2))) (.e [(0, true), (1, false), (2, false), (3, true)] [NoAddr (List.flatMap (uc .u8) p.1), NoAddr (List.flatMap T_api_Act.cells x.2.2.2)] true (fun _ => ⟨na_flat (fun _ => rfl) _, ⟨na_flat (fun _ => rfl) _, trivial⟩⟩) (.inl ((IntKind.wrap .i64 (x.1 + 1)), (IntKind.wrap .i64 (x.2.1 + 1)), r34, x.2.2.2)))))))))))) (.n 3 (.s (r3.2.1.Kind == 2) (.n 3 (.s (decide (x.1 < (((List.length p.1) : Nat) : Int))) (.n 2 (Gd.ae (uc .u8) 1 (fun _ => rfl) p.1 x.1 (Gd.li .u8 p.1 (Int.toNat x.1) (.n 9 (.s (r3.2.1.Kind != 0) (.n 3 (Gd.ap T_api_Act.cells 3 16 (fun _ => rfl) x.2.2.2 [{ r3.2.1 with Data := (List.getD p.1 (Int.toNat x.1) 0) }] [(.int .i64 r3.2.1.Kind), (.int .u16 r3.2.1.Addr), (.int .u8 (List.getD p.1 (Int.toNat x.1) 0))] 0 1 7 rfl rfl (.n 3 (.k [] c12 ((r3.1, (List.getD p.1 (Int.toNat x.1) 0), 0) : X12) fun (r47 : Y12) => (.n 5 (.k [] c11 r47 fun (r53 : Y11) => (.s (!r53) (.e [(0, true), (1, false), (2, false), (7, true)] [NoAddr (List.flatMap (uc .u8) p.1), NoAddr (List.flatMap T_api_Act.cells (x.2.2.2 ++ [{ r3.2.1 with Data := (List.getD p.1 (Int.toNat x.1) 0) }]))] true (fun _ => ⟨na_flat (fun _ => rfl) _, ⟨na_flat (fun _ => rfl) _, trivial⟩⟩) (.inr ((IntKind.wrap .i64 (x.2.1 + 1)), r47, (x.2.2.2 ++ [{ r3.2.1 with Data := (List.getD p.1 (Int.toNat x.1) 0) }])))) (.e [(0, true), (1, false), (2, false), (7, true)] [NoAddr (List.flatMap (uc .u8) p.1), NoAddr (List.flatMap T_api_Act.cells (x.2.2.2 ++ [{ r3.2.1 with Data := (List.getD p.1 (Int.toNat x.1) 0) }]))] true (fun _ => ⟨na_flat (fun _ => rfl) _, ⟨na_flat (fun _ => rfl) _, trivial⟩⟩) (.inl ((IntKind.wrap .i64 (x.1 + 1)), (IntKind.wrap .i64 (x.2.1 + 1)), r47, (x.2.2.2 ++ [{ r3.2.1 with Data := (List.getD p.1 (Int.toNat x.1) 0) }]))))))))))) (.n 2 (.k [] c12 ((r3.1, (List.getD p.1 (Int.toNat x.1) 0), 0) : X12) fun (r42 : Y12) => (.n 5 (.k [] c11 r42 fun (r48 : Y11) => (.s (!r48) (.e [(0, true), (1, false), (2, false), (3, true)] [NoAddr (List.flatMap (uc .u8) p.1), NoAddr (List.flatMap T_api_Act.cells x.2.2.2)] true (fun _ => ⟨na_flat (fun _ => rfl) _, ⟨na_flat (fun _ => rfl) _, trivial⟩⟩) (.inr ((IntKind.wrap .i64 (x.2.1 + 1)), r42, x.2.2.2))) (.e [(0, true), (1, false), (2, false), (3, true)] [NoAddr (List.flatMap (uc .u8) p.1), NoAddr (List.flatMap T_api_Act.cells x.2.2.2)] true (fun _ => ⟨na_flat (fun _ => rfl) _, ⟨na_flat (fun _ => rfl) _, trivial⟩⟩) (.inl ((IntKind.wrap .i64 (x.1 + 1)), (IntKind.wrap .i64 (x.2.1 + 1)), r42, x.2.2.2))))))))))))) (.n 8 (.s (r3.2.1.Kind != 0) (.n 3 (Gd.ap T_api_Act.cells 3 16 (fun _ => rfl) x.2.2.2 [{ r3.2.1 with Data := 0 }] [(.int .i64 r3.2.1.Kind), (.int .u16 r3.2.1.Addr), (.int .u8 0)] 0 1 7 rfl rfl (.n 3 (.k [] c12 (r3.1, 0, 0) fun (r42 : Y12) => (.n 5 (.k [] c11 r42 fun (r48 : Y11) => (.s (!r48) (.e [(0, true), (1, false), (2, false), (7, true)] [NoAddr (List.flatMap (uc .u8) p.1), NoAddr (List.flatMap T_api_Act.cells (x.2.2.2 ++ [{ r3.2.1 with Data := 0 }]))] true (fun _ => ⟨na_flat (fun _ => rfl) _, ⟨na_flat (fun _ => rfl) _, trivial⟩⟩) (.inr ((IntKind.wrap .i64 (x.2.1 + 1)), r42, (x.2.2.2 ++ [{ r3.2.1 with Data := 0 }])))) (.e [(0, true), (1, false), (2, false), (7, true)] [NoAddr (List.flatMap (uc .u8) p.1), NoAddr (List.flatMap T_api_Act.cells (x.2.2.2 ++ [{ r3.2.1 with Data := 0 }]))] true (fun _ => ⟨na_flat (fun _ => rfl) _, ⟨na_flat (fun _ => rfl) _, trivial⟩⟩) (.inl ((IntKind.wrap .i64 (x.1 + 1)), (IntKind.wrap .i64 (x.2.1 + 1)), r42, (x.2.2.2 ++ [{ r3.2.1 with Data := 0 }]))))))))))) (.n 2 (.k [] c12 (r3.1, 0, 0) fun (r37 : Y12) => (.n 5 (.k [] c11 r37 fun (r43 : Y11) => (.s (!r43) (.e [(0, true), (1, false), (2, false), (3, true)] [NoAddr (List.flatMap (uc .u8) p.1), NoAddr (List.flatMap T_api_Act.cells x.2.2.2)] true (fun _ => ⟨na_flat (fun _ => rfl) _, ⟨na_flat (fun _ => rfl) _, trivial⟩⟩) (.inr ((IntKind.wrap .i64 (x.2.1 + 1)), r37, x.2.2.2))) (.e [(0, true), (1, false), (2, false), (3, true)] [NoAddr (List.flatMap (uc .u8) p.1), NoAddr (List.flatMap T_api_Act.cells x.2.2.2)] true (fun _ => ⟨na_flat (fun _ => rfl) _, ⟨na_flat (fun _ => rfl) _, trivial⟩⟩) (.inl ((IntKind.wrap .i64 (x.1 + 1)), (IntKind.wrap .i64 (x.2.1 + 1)), r37, x.2.2.2)))))))))))) (.n 2 (.s (r3.2.1.Kind != 0) (.n 3 (Gd.ap T_api_Act.cells 3 16 (fun _ => rfl) x.2.2.2 [r3.2.1] [(.int .i64 r3.2.1.Kind), (.int .u16 r3.2.1.Addr), (.int .u8 r3.2.1.Data)] 0 1 7 rfl rfl (.n 3 (.k [] c12 (r3.1, 0, 0) fun (r32 : Y12) => (.n 5 (.k [] c11 r32 fun (r38 : Y11) => (.s (!r38) (.e [(0, true), (1, false), (2, false), (7, true)] [NoAddr (List.flatMap (uc .u8) p.1), NoAddr (List.flatMap T_api_Act.cells (x.2.2.2 ++ [r3.2.1]))] true (fun _ => ⟨na_flat (fun _ => rfl) _, ⟨na_flat (fun _ => rfl) _, trivial⟩⟩) (.inr ((IntKind.wrap .i64 (x.2.1 + 1)), r32, (x.2.2.2 ++ [r3.2.1])))) (.e [(0, true), (1, false), (2, false), (7, true)] [NoAddr (List.flatMap (uc .u8) p.1), NoAddr (List.flatMap T_api_Act.cells (x.2.2.2 ++ [r3.2.1]))] true (fun _ => ⟨na_flat (fun _ => rfl) _, ⟨na_flat (fun _ => rfl) _, trivial⟩⟩) (.inl (x.1, (IntKind.wrap .i64 (x.2.1 + 1)), r32, (x.2.2.2 ++ [r3.2.1]))))))))))) (.n 2 (.k [] c12 (r3.1, 0, 0) fun (r27 : Y12) => (.n 5 (.k [] c11 r27 fun (r33 : Y11) => (.s (!r33) (.e [(0, true), (1, false), (2, false), (3, true)] [NoAddr (List.flatMap (uc .u8) p.1), NoAddr (List.flatMap T_api_Act.cells x.2.2.2)] true (fun _ => ⟨na_flat (fun _ => rfl) _, ⟨na_flat (fun _ => rfl) _, trivial⟩⟩) (.inr ((IntKind.wrap .i64 (x.2.1 + 1)), r27, x.2.2.2))) (.e [(0, true), (1, false), (2, false), (3, true)] [NoAddr (List.flatMap (uc .u8) p.1), NoAddr (List.flatMap T_api_Act.cells x.2.2.2)] true (fun _ => ⟨na_flat (fun _ => rfl) _, ⟨na_flat (fun _ => rfl) _, trivial⟩⟩) (.inl (x.1, (IntKind.wrap .i64 (x.2.1 + 1)), r27, x.2.2.2)))))))))))))))) (.e [(0, true), (1, false), (2, false), (3, true)] [NoAddr (List.flatMap (uc .u8) p.1), NoAddr (List.flatMap T_api_Act.cells x.2.2.2)] true (fun _ => ⟨na_flat (fun _ => rfl) _, ⟨na_flat (fun _ => rfl) _, trivial⟩⟩) (.inr (x.2.1, x.2.2.1, x.2.2.2)))))
theorem LK14_l1 (p : LP14_l1) (x : LS14_l1) : evB Go.Proofs.Try.prog 60 1 (loopOf Go.Proofs.Try.prog 14 0) Lk14_l1 (Lt14_l1 p x) (Lh14_l1 p x) (LG14_l1 p x) = (LG14_l1 p x).exp fun r => match r with | .inl x' => (.normal, Lt14_l1 p x', Lh14_l1 p x') | .inr y => (Le14_l1 y, Lu14_l1 p y, Lv14_l1 p y) := by kernel_rfl
noncomputable def LF14_l1 (p : LP14_l1) (n : Nat) (x : LS14_l1) : Option LY14_l1 := rounds (fun x => (LG14_l1 p x).run) n x
theorem LE14_l1 (y : LY14_l1) : Le14_l1 y ≠ .normal := by intro h; cases h
@[reducible] noncomputable def lc14_l1 (p : LP14_l1) : LCon Go.Proofs.Try.prog := LCon.of mixed 60 1 (loopOf Go.Proofs.Try.prog 14 0) Lk14_l1 (Lt14_l1 p) (Lh14_l1 p) Le14_l1 (Lu14_l1 p) (Lv14_l1 p) LE14_l1 (LG14_l1 p) (fun _ => 18446744073709551616) (LF14_l1 p 18446744073709551616) (fun _ => rfl) (LK14_l1 p)
/-- whirligig/whirligiglaw22.ran -/
abbrev X14 := T_api_Cpu × Bool × Option (Nat × Nat) × List Int
abbrev Y14 := T_api_Cpu × List T_api_Act × Int
noncomputable def A14 (x : X14) : List Value := [(T_api_Cpu.v x.1), (.slice (some ⟨0, 0, none⟩) (List.length x.2.2.2) 0)]
noncomputable def J14 (x : X14) : List (Sl × Bool) := [(.live ⟨List.flatMap (uc .u8) x.2.2.2, x.2.1, x.2.2.1⟩, true)]
noncomputable def V14 (r : Y14) : Value := (.tuple ⟨[(T_api_Cpu.v r.1), (.slice (some ⟨1, 0, none⟩) (List.length r.2.1) 0), (.int .i64 r.2.2)]⟩)
noncomputable def H14 (x : X14) (r : Y14) : List (Sl × Bool) := [(.live ⟨List.flatMap (uc .u8) x.2.2.2, x.2.1, x.2.2.1⟩, true), (.live ⟨List.flatMap T_api_Act.cells r.2.1, true, some (31, 3)⟩, true)]
noncomputable def G14 (x : X14) : Gd Go.Proofs.Try.prog Y14 :=
  (.n 7 (.l [1, 2, 4, 7, 8, 9] [(0, true), (1, false), (2, false)] [(7, 31, 3)] (lc14_l1 (x.2.2.2, x.2.1, x.2.2.1)) ((0, 0, x.1, []) : LS14_l1) [NoAddr (List.flatMap (uc .u8) x.2.2.2)] true (fun _ => ⟨na_flat (fun _ => rfl) _, trivial⟩) fun (r7 : LY14_l1) => (.n 6 (.e [(0, true), (3, true)] [NoAddr (List.flatMap (uc .u8) x.2.2.2), NoAddr (List.flatMap T_api_Act.cells r7.2.2)] true (fun _ => ⟨na_flat (fun _ => rfl) _, ⟨na_flat (fun _ => rfl) _, trivial⟩⟩) (r7.2.1, r7.2.2, r7.1)))))
theorem K14 (x : X14) : evF Go.Proofs.Try.prog 14 (A14 x) ((J14 x).map (·.1)) (G14 x) = (G14 x).exp fun y => (V14 y, (H14 x y).map (·.1)) := by kernel_rfl
theorem NJ14 (x : X14) : All (nad (J14 x)) := ⟨na_flat (fun _ => rfl) _, trivial⟩
theorem N14 (x : X14) (y : Y14) : All (nad (H14 x y)) := ⟨na_flat (fun _ => rfl) _, ⟨na_flat (fun _ => rfl) _, trivial⟩⟩
noncomputable def F14 (x : X14) : Option Y14 := (G14 x).run
@[reducible] noncomputable def c14 : Con Go.Proofs.Try.prog := Con.of mixed 14 false A14 J14 V14 H14 G14 F14 (fun _ => rfl) K14 NJ14 N14
/-- whirligig/micro.Asks -/
abbrev X17 := Int × Bool
abbrev Y17 := Bool
noncomputable def A17 (x : X17) : List Value := [(.int .u8 x.1), (.bool x.2)]
noncomputable def J17 (x : X17) : List (Sl × Bool) := []
noncomputable def V17 (r : Y17) : Value := (.bool r)
noncomputable def H17 (x : X17) (r : Y17) : List (Sl × Bool) := J17 x
noncomputable def G17 (x : X17) : Gd Go.Proofs.Try.prog Y17 :=
  (.n 3 (.k [] c36 (x.1, x.2) fun (r3 : Y36) => (.n 5 (.s (r3.Kind == 36) (.n 4 (Gd.z [] (decide (r3.X < 4)))) (.n 1 (.s (r3.Kind == 37) (.n 4 (Gd.z [] (decide (r3.X < 4)))) (.n 1 (.s (r3.Kind == 39) (.n 4 (Gd.z [] (decide (r3.X < 4)))) (.n 1 (.s (r3.Kind == 40) (.n 4 (Gd.z [] (decide (r3.X < 4)))) (.n 1 (Gd.z [] false))))))))))))
theorem K17 (x : X17) : evF Go.Proofs.Try.prog 17 (A17 x) ((J17 x).map (·.1)) (G17 x) = (G17 x).exp fun y => (V17 y, (H17 x y).map (·.1)) := by kernel_rfl
noncomputable def F17 (x : X17) : Option Y17 := (G17 x).run
@[reducible] noncomputable def c17 : Con Go.Proofs.Try.prog := Con.of mixed 17 true A17 J17 V17 H17 G17 F17 (fun _ => rfl) K17 (fun _ => all_is (by kernel_rfl)) (fun _ _ => all_is (by kernel_rfl))
/-- whirligig/whirligiglaw22.CpuTimes -/
abbrev X7 := T_api_Regs × Bool × Option (Nat × Nat) × List Int
abbrev Y7 := Bool
noncomputable def A7 (x : X7) : List Value := [(T_api_Regs.v x.1), (.slice (some ⟨0, 0, none⟩) (List.length x.2.2.2) 0)]
noncomputable def J7 (x : X7) : List (Sl × Bool) := [(.live ⟨List.flatMap (uc .u8) x.2.2.2, x.2.1, x.2.2.1⟩, true)]
noncomputable def V7 (r : Y7) : Value := (.bool r)
noncomputable def H7 (x : X7) (r : Y7) : List (Sl × Bool) := J7 x
noncomputable def G7 (x : X7) : Gd Go.Proofs.Try.prog Y7 :=
  (.n 2 (.k [] c8 () fun (r2 : Y8) => (.n 2 (.t [] c9 x.1 fun (r5 : Y9) => (.n 1 (.k [(0, true)] c14 (r5, x.2.1, x.2.2.1, x.2.2.2) fun (r7 : Y14) => (.n 11 (.s (decide ((((List.length x.2.2.2) : Nat) : Int) > 0)) (.n 1 (Gd.ae (uc .u8) 1 (fun _ => rfl) x.2.2.2 0 (Gd.li .u8 x.2.2.2 (Int.toNat 0) (.n 2 (.k [] c15 ((List.getD x.2.2.2 (Int.toNat 0) 0) : X15) fun (r25 : Y15) => (.n 4 (.s (r25.Kind == 6) (.n 3 (.s (decide ((((List.length x.2.2.2) : Nat) : Int) > 1)) (.n 1 (Gd.ae (uc .u8) 1 (fun _ => rfl) x.2.2.2 1 (Gd.li .u8 x.2.2.2 (Int.toNat 1) (.n 2 (.k [] c16 ((List.getD x.2.2.2 (Int.toNat 1) 0) : X16) fun (r40 : Y16) => (.n 8 (.k [] c17 (((List.getD x.2.2.2 (Int.toNat 1) 0), (decide (r40.Kind ≥ 43))) : X17) fun (r49 : Y17) => (.s r49 (.n 1 (.t [] c9 x.1 fun (r52 : Y9) => (.n 3 (.t [] c18 (r52.R, r40.X) fun (r56 : Y18) => (.s r56 (.n 4 (.s r2 (.n 4 (.s (r7.2.2 == r40.Taken) (.n 7 (.e [(0, true)] [NoAddr (List.flatMap (uc .u8) x.2.2.2)] true (fun _ => ⟨na_flat (fun _ => rfl) _, trivial⟩) ((Int.tmod r7.1.R.F 16) == 0))) (.n 2 (.e [(0, true)] [NoAddr (List.flatMap (uc .u8) x.2.2.2)] true (fun _ => ⟨na_flat (fun _ => rfl) _, trivial⟩) false)))) (.n 4 (.e [(0, true)] [NoAddr (List.flatMap (uc .u8) x.2.2.2)] true (fun _ => ⟨na_flat (fun _ => rfl) _, trivial⟩) false)))) (.n 1 (.s r2 (.n 4 (.s (r7.2.2 == r40.Cycles) (.n 7 (.e [(0, true)] [NoAddr (List.flatMap (uc .u8) x.2.2.2)] true (fun _ => ⟨na_flat (fun _ => rfl) _, trivial⟩) ((Int.tmod r7.1.R.F 16) == 0))) (.n 2 (.e [(0, true)] [NoAddr (List.flatMap (uc .u8) x.2.2.2)] true (fun _ => ⟨na_flat (fun _ => rfl) _, trivial⟩) false)))) (.n 4 (.e [(0, true)] [NoAddr (List.flatMap (uc .u8) x.2.2.2)] true (fun _ => ⟨na_flat (fun _ => rfl) _, trivial⟩) false))))))))) (.n 2 (.s r2 (.n 4 (.s (r7.2.2 == r40.Cycles) (.n 7 (.e [(0, true)] [NoAddr (List.flatMap (uc .u8) x.2.2.2)] true (fun _ => ⟨na_flat (fun _ => rfl) _, trivial⟩) ((Int.tmod r7.1.R.F 16) == 0))) (.n 2 (.e [(0, true)] [NoAddr (List.flatMap (uc .u8) x.2.2.2)] true (fun _ => ⟨na_flat (fun _ => rfl) _, trivial⟩) false)))) (.n 4 (.e [(0, true)] [NoAddr (List.flatMap (uc .u8) x.2.2.2)] true (fun _ => ⟨na_flat (fun _ => rfl) _, trivial⟩) false)))))))))))) (.n 1 (.k [] c16 (0 : X16) fun (r36 : Y16) => (.n 8 (.k [] c17 (0, (decide (r36.Kind ≥ 43))) fun (r45 : Y17) => (.s r45 (.n 1 (.t [] c9 x.1 fun (r48 : Y9) => (.n 3 (.t [] c18 (r48.R, r36.X) fun (r52 : Y18) => (.s r52 (.n 4 (.s r2 (.n 4 (.s (r7.2.2 == r36.Taken) (.n 7 (.e [(0, true)] [NoAddr (List.flatMap (uc .u8) x.2.2.2)] true (fun _ => ⟨na_flat (fun _ => rfl) _, trivial⟩) ((Int.tmod r7.1.R.F 16) == 0))) (.n 2 (.e [(0, true)] [NoAddr (List.flatMap (uc .u8) x.2.2.2)] true (fun _ => ⟨na_flat (fun _ => rfl) _, trivial⟩) false)))) (.n 4 (.e [(0, true)] [NoAddr (List.flatMap (uc .u8) x.2.2.2)] true (fun _ => ⟨na_flat (fun _ => rfl) _, trivial⟩) false)))) (.n 1 (.s r2 (.n 4 (.s (r7.2.2 == r36.Cycles) (.n 7 (.e [(0, true)] [NoAddr (List.flatMap (uc .u8) x.2.2.2)] true (fun _ => ⟨na_flat (fun _ => rfl) _, trivial⟩) ((Int.tmod r7.1.R.F 16) == 0))) (.n 2 (.e [(0, true)] [NoAddr (List.flatMap (uc .u8) x.2.2.2)] true (fun _ => ⟨na_flat (fun _ => rfl) _, trivial⟩) false)))) (.n 4 (.e [(0, true)] [NoAddr (List.flatMap (uc .u8) x.2.2.2)] true (fun _ => ⟨na_flat (fun _ => rfl) _, trivial⟩) false))))))))) (.n 2 (.s r2 (.n 4 (.s (r7.2.2 == r36.Cycles) (.n 7 (.e [(0, true)] [NoAddr (List.flatMap (uc .u8) x.2.2.2)] true (fun _ => ⟨na_flat (fun _ => rfl) _, trivial⟩) ((Int.tmod r7.1.R.F 16) == 0))) (.n 2 (.e [(0, true)] [NoAddr (List.flatMap (uc .u8) x.2.2.2)] true (fun _ => ⟨na_flat (fun _ => rfl) _, trivial⟩) false)))) (.n 4 (.e [(0, true)] [NoAddr (List.flatMap (uc .u8) x.2.2.2)] true (fun _ => ⟨na_flat (fun _ => rfl) _, trivial⟩) false))))))))))) (.n 7 (.k [] c17 (((List.getD x.2.2.2 (Int.toNat 0) 0), (decide (r25.Kind ≥ 43))) : X17) fun (r38 : Y17) => (.s r38 (.n 1 (.t [] c9 x.1 fun (r41 : Y9) => (.n 3 (.t [] c18 (r41.R, r25.X) fun (r45 : Y18) => (.s r45 (.n 4 (.s r2 (.n 4 (.s (r7.2.2 == r25.Taken) (.n 7 (.e [(0, true)] [NoAddr (List.flatMap (uc .u8) x.2.2.2)] true (fun _ => ⟨na_flat (fun _ => rfl) _, trivial⟩) ((Int.tmod r7.1.R.F 16) == 0))) (.n 2 (.e [(0, true)] [NoAddr (List.flatMap (uc .u8) x.2.2.2)] true (fun _ => ⟨na_flat (fun _ => rfl) _, trivial⟩) false)))) (.n 4 (.e [(0, true)] [NoAddr (List.flatMap (uc .u8) x.2.2.2)] true (fun _ => ⟨na_flat (fun _ => rfl) _, trivial⟩) false)))) (.n 1 (.s r2 (.n 4 (.s (r7.2.2 == r25.Cycles) (.n 7 (.e [(0, true)] [NoAddr (List.flatMap (uc .u8) x.2.2.2)] true (fun _ => ⟨na_flat (fun _ => rfl) _, trivial⟩) ((Int.tmod r7.1.R.F 16) == 0))) (.n 2 (.e [(0, true)] [NoAddr (List.flatMap (uc .u8) x.2.2.2)] true (fun _ => ⟨na_flat (fun _ => rfl) _, trivial⟩) false)))) (.n 4 (.e [(0, true)] [NoAddr (List.flatMap (uc .u8) x.2.2.2)] true (fun _ => ⟨na_flat (fun _ => rfl) _, trivial⟩) false))))))))) (.n 2 (.s r2 (.n 4 (.s (r7.2.2 == r25.Cycles) (.n 7 (.e [(0, true)] [NoAddr (List.flatMap (uc .u8) x.2.2.2)] true (fun _ => ⟨na_flat (fun _ => rfl) _, trivial⟩) ((Int.tmod r7.1.R.F 16) == 0))) (.n 2 (.e [(0, true)] [NoAddr (List.flatMap (uc .u8) x.2.2.2)] true (fun _ => ⟨na_flat (fun _ => rfl) _, trivial⟩) false)))) (.n 4 (.e [(0, true)] [NoAddr (List.flatMap (uc .u8) x.2.2.2)] true (fun _ => ⟨na_flat (fun _ => rfl) _, trivial⟩) false)))))))))))))) (.n 1 (.k [] c15 (0 : X15) fun (r21 : Y15) => (.n 4 (.s (r21.Kind == 6) (.n 3 (.s (decide ((((List.length x.2.2.2) : Nat) : Int) > 1)) (.n 1 (Gd.ae (uc .u8) 1 (fun _ => rfl) x.2.2.2 1 (Gd.li .u8 x.2.2.2 (Int.toNat 1) (.n 2 (.k [] c16 ((List.getD x.2.2.2 (Int.toNat 1) 0) : X16) fun (r36 : Y16) => (.n 8 (.k [] c17 (((List.getD x.2.2.2 (Int.toNat 1) 0), (decide (r36.Kind ≥ 43))) : X17) fun (r45 : Y17) => (.s r45 (.n 1 (.t [] c9 x.1 fun (r48 : Y9) => (.n 3 (.t [] c18 (r48.R, r36.X) fun (r52 : Y18) => (.s r52 (.n 4 (.s r2 (.n 4 (.s (r7.2.2 == r36.Taken) (.n 7 (.e [(0, true)] [NoAddr (List.flatMap (uc .u8) x.2.2.2)] true (fun _ => ⟨na_flat (fun _ => rfl) _, trivial⟩) ((Int.tmod r7.1.R.F 16) == 0))) (.n 2 (.e [(0, true)] [NoAddr (List.flatMap (uc .u8) x.2.2.2)] true (fun _ => ⟨na_flat (fun _ => rfl) _, trivial⟩) false)))) (.n 4 (.e [(0, true)] [NoAddr (List.flatMap (uc .u8) x.2.2.2)] true (fun _ => ⟨na_flat (fun _ => rfl) _, trivial⟩) false)))) (.n 1 (.s r2 (.n 4 (.s (r7.2.2 == r36.Cycles) (.n 7 (.e [(0, true)] [NoAddr (List.flatMap (uc .u8) x.2.2.2)] true (fun _ => ⟨na_flat (fun _ => rfl) _, trivial⟩) ((Int.tmod r7.1.R.F 16) == 0))) (.n 2 (.e [(0, true)] [NoAddr (List.flatMap (uc .u8) x.2.2.2)] true (fun _ => ⟨na_flat (fun _ => rfl) _, trivial⟩) false)))) (.n 4 (.e [(0, true)] [NoAddr (List.flatMap (uc .u8) x.2.2.2)] true (fun _ => ⟨na_flat (fun _ => rfl) _, trivial⟩) false))))))))) (.n 2 (.s r2 (.n 4 (.s (r7.2.2 == r36.Cycles) (.n 7 (.e [(0, true)] [NoAddr (List.flatMap (uc .u8) x.2.2.2)] true (fun _ => ⟨na_flat (fun _ => rfl) _, trivial⟩) ((Int.tmod r7.1.R.F 16) == 0))) (.n 2 (.e [(0, true)] [NoAddr (List.flatMap (uc .u8) x.2.2.2)] true (fun _ => ⟨na_flat (fun _ => rfl) _, trivial⟩) false)))) (.n 4 (.e [(0, true)] [NoAddr (List.flatMap (uc .u8) x.2.2.2)] true (fun _ => ⟨na_flat (fun _ => rfl) _, trivial⟩) false)))))))))))) (.n 1 (.k [] c16 (0 : X16) fun (r32 : Y16) => (.n 8 (.k [] c17 (0, (decide (r32.Kind ≥ 43))) fun (r41 : Y17) => (.s r41 (.n 1 (.t [] c9 x.1 fun (r44 : Y9) => (.n 3 (.t [] c18 (r44.R, r32.X) fun (r48 : Y18) => (.s r48 (.n 4 (.s r2 (.n 4 (.s (r7.2.2 == r32.Taken) (.n 7 (.e [(0, true)] [NoAddr (List.flatMap (uc .u8) x.2.2.2)] true (fun _ => ⟨na_flat (fun _ => rfl) _, trivial⟩) ((Int.tmod r7.1.R.F 16) == 0))) (.n 2 (.e [(0, true)] [NoAddr (List.flatMap (uc .u8) x.2.2.2)] true (fun _ => ⟨na_flat (fun _ => rfl) _, trivial⟩) false)))) (.n 4 (.e [(0, true)] [NoAddr (List.flatMap (uc .u8) x.2.2.2)] true (fun _ => ⟨na_flat (fun _ => rfl) _, trivial⟩) false)))) (.n 1 (.s r2 (.n 4 (.s (r7.2.2 == r32.Cycles) (.n 7 (.e [(0, true)] [NoAddr (List.flatMap (uc .u8) x.2.2.2)] true (fun _ => ⟨na_flat (fun _ => rfl) _, trivial⟩) ((Int.tmod r7.1.R.F 16) == 0))) (.n 2 (.e [(0, true)] [NoAddr (List.flatMap (uc .u8) x.2.2.2)] true (fun _ => ⟨na_flat (fun _ => rfl) _, trivial⟩) false)))) (.n 4 (.e [(0, true)] [NoAddr (List.flatMap (uc .u8) x.2.2.2)] true (fun _ => ⟨na_flat (fun _ => rfl) _, trivial⟩) false))))))))) (.n 2 (.s r2 (.n 4 (.s (r7.2.2 == r32.Cycles) (.n 7 (.e [(0, true)] [NoAddr (List.flatMap (uc .u8) x.2.2.2)] true (fun _ => ⟨na_flat (fun _ => rfl) _, trivial⟩) ((Int.tmod r7.1.R.F 16) == 0))) (.n 2 (.e [(0, true)] [NoAddr (List.flatMap (uc .u8) x.2.2.2)] true (fun _ => ⟨na_flat (fun _ => rfl) _, trivial⟩) false)))) (.n 4 (.e [(0, true)] [NoAddr (List.flatMap (uc .u8) x.2.2.2)] true (fun _ => ⟨na_flat (fun _ => rfl) _, trivial⟩) false))))))))))) (.n 7 (.k [] c17 (0, (decide (r21.Kind ≥ 43))) fun (r34 : Y17) => (.s r34 (.n 1 (.t [] c9 x.1 fun (r37 : Y9) => (.n 3 (.t [] c18 (r37.R, r21.X) fun (r41 : Y18) => (.s r41 (.n 4 (.s r2 (.n 4 (.s (r7.2.2 == r21.Taken) (.n 7 (.e [(0, true)] [NoAddr (List.flatMap (uc .u8) x.2.2.2)] true (fun _ => ⟨na_flat (fun _ => rfl) _, trivial⟩) ((Int.tmod r7.1.R.F 16) == 0))) (.n 2 (.e [(0, true)] [NoAddr (List.flatMap (uc .u8) x.2.2.2)] true (fun _ => ⟨na_flat (fun _ => rfl) _, trivial⟩) false)))) (.n 4 (.e [(0, true)] [NoAddr (List.flatMap (uc .u8) x.2.2.2)] true (fun _ => ⟨na_flat (fun _ => rfl) _, trivial⟩) false)))) (.n 1 (.s r2 (.n 4 (.s (r7.2.2 == r21.Cycles) (.n 7 (.e [(0, true)] [NoAddr (List.flatMap (uc .u8) x.2.2.2)] true (fun _ => ⟨na_flat (fun _ => rfl) _, trivial⟩) ((Int.tmod r7.1.R.F 16) == 0))) (.n 2 (.e [(0, true)] [NoAddr (List.flatMap (uc .u8) x.2.2.2)] true (fun _ => ⟨na_flat (fun _ => rfl) _, trivial⟩) false)))) (.n 4 (.e [(0, true)] [NoAddr (List.flatMap (uc .u8) x.2.2.2)] true (fun _ => ⟨na_flat (fun _ => rfl) _, trivial⟩) false))))))))) (.n 2 (.s r2 (.n 4 (.s (r7.2.2 == r21.Cycles) (.n 7 (.e [(0, true)] [NoAddr (List.flatMap (uc .u8) x.2.2.2)] true (fun _ => ⟨na_flat (fun _ => rfl) _, trivial⟩) ((Int.tmod r7.1.R.F 16) == 0))) (.n 2 (.e [(0, true)] [NoAddr (List.flatMap (uc .u8) x.2.2.2)] true (fun _ => ⟨na_flat (fun _ => rfl) _, trivial⟩) false)))) (.n 4 (.e [(0, true)] [NoAddr (List.flatMap (uc .u8) x.2.2.2)] true (fun _ => ⟨na_flat (fun _ => rfl) _, trivial⟩) false)))))))))))))))))))
theorem K7 (x : X7) : evF Go.Proofs.Try.prog 7 (A7 x) ((J7 x).map (·.1)) (G7 x) = (G7 x).exp fun y => (V7 y, (H7 x y).map (·.1)) := by kernel_rfl
theorem NJ7 (x : X7) : All (nad (J7 x)) := ⟨na_flat (fun _ => rfl) _, trivial⟩
noncomputable def F7 (x : X7) : Option Y7 := (G7 x).run
@[reducible] noncomputable def c7 : Con Go.Proofs.Try.prog := Con.of mixed 7 true A7 J7 V7 H7 G7 F7 (fun _ => rfl) K7 NJ7 (fun x _ => NJ7 x)
end Go.Gen.Try
