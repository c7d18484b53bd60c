import Derived.Test.YtlakggidkijcnaaFlagsP
import Derived.Test.YtlakggidkijcnaaLocksP
set_option linter.all false
set_option linter.all false
/- The plain law of CpuTimes. -/
namespace Go.Gen.Try
open Go Go.LE

/-- An instruction under way. -/
def Going (c : T_api_Cpu) (op : Int) (cb : Bool) (s F : Int) : Prop := c.Ime = false ∧ c.Arm = false ∧ c.Mode = 0 ∧ c.Op = op ∧ c.Cb = cb ∧ c.Step = s ∧ c.R.F = F
noncomputable def form (op : Int) (cb : Bool) : T_api_Form := bif cb then t16 op else t15 op
noncomputable def tkn (F op : Int) (cb : Bool) : Bool := f18 (⟨0, F, 0, 0, 0, 0, 0, 0, 0, 0⟩, (form op cb).X)
noncomputable def plen (op : Int) (cb tk : Bool) : Nat := match t41 (op, cb, tk) with | none => 0 | some l => l.2.length + 1

theorem hold_F (R : T_api_Regs) (x : Int) : f18 (R, x) = f18 (⟨0, R.F, 0, 0, 0, 0, 0, 0, 0, 0⟩, x) := rfl
theorem going_form {c : T_api_Cpu} {op : Int} {cb : Bool} {s F : Int} (g : Going c op cb s F) (h : 0 ≤ op ∧ op ≤ 255) : F45 ⟨c⟩ = some (form op cb) := by
  obtain ⟨g1, g2, g3, g4, g5, g6, g7⟩ := g
  unfold F45 G45 form
  cases cb <;> simp only [Gd.run, Gd.k, Gd.z, g4, g5, E15 _ h, E16 _ h, cond_false, cond_true, Option.bind_some]
theorem going_taken {c : T_api_Cpu} {op : Int} {cb : Bool} {s F : Int} (g : Going c op cb s F) (h : 0 ≤ op ∧ op ≤ 255) : F42 ⟨c⟩ = some (tkn F op cb) := by
  unfold F42 G42 tkn
  simp only [Gd.run, Gd.k, Gd.z, going_form g h, cond_true, Option.bind_some]
  rw [hold_F, g.2.2.2.2.2.2]

theorem i64_id (x : Int) (h : -1000 ≤ x ∧ x ≤ 1000) : IntKind.wrap .i64 x = x := by rw [IntKind.wrap_i64]; omega

theorem cycle_plain {c : T_api_Cpu} {op s F : Int} (g : Going c op false s F) (h : 0 ≤ op ∧ op ≤ 255) (hp : op ≠ 203) (hs : 1 ≤ s ∧ s ≤ 100) : ∃ m, F24 ⟨c⟩ = some (m, decide (s - 1 < (plen op false (tkn F op false) : Int))) := by
  have e42 := going_taken g h
  have e41 := E41 (op, false, tkn F op false) h
  obtain ⟨g1, g2, g3, g4, g5, g6, g7⟩ := g
  have e40 : f40 ⟨c⟩ = false := by
    have : f40 ⟨c⟩ = bif c.Op == 203 then !c.Cb else false := rfl
    rw [this, g4, beq_false_of_ne hp]; rfl
  have w1 := i64_id s (by omega)
  have w2 := i64_id (s - 1) (by omega)
  unfold F24 G24 plen
  cases ht : t41 (op, false, tkn F op false) with
  | none =>
    rw [ht] at e41
    exact ⟨⟨0, 0, 0⟩, by simp [Gd.run, Gd.k, Gd.z, g4, g5, g6, e40, selB, e42, e41, w1, w2, show ¬ s - 1 < 0 by omega, show 0 ≤ s - 1 by omega, show 1 ≤ s by omega, show ¬ s < 1 by omega]⟩
  | some l =>
    rw [ht] at e41
    by_cases hl : s - 1 < ((l.2.length + 1 : Nat) : Int)
    · refine ⟨List.getD (l.1 :: l.2) (Int.toNat (s - 1)) ⟨0, 0, 0⟩, ?_⟩
      have k1 : (s - 1).toNat < l.2.length + 1 := by omega
      simp [Gd.run, Gd.k, Gd.z, Gd.ae, Gd.le, g4, g5, g6, e40, selB, e42, e41, w1, w2, show ¬ s - 1 < 0 by omega, show ¬ s < 1 by omega, show 1 ≤ s by omega, hl]
      rw [decide_eq_false (show ¬ (l.2.length : Int) + 1 ≤ s - 1 by omega), decide_eq_true (show s - 1 < (l.2.length : Int) + 1 by omega), decide_eq_true (show s.toNat - 1 < l.2.length + 1 by omega)]
      rfl
    · exact ⟨⟨0, 0, 0⟩, by
        simp [Gd.run, Gd.k, Gd.z, Gd.ae, Gd.le, g4, g5, g6, e40, selB, e42, e41, w1, w2, show ¬ s - 1 < 0 by omega, show ¬ s < 1 by omega, show 1 ≤ s by omega, hl]
        rw [decide_eq_true (show (l.2.length : Int) + 1 ≤ s - 1 by omega), decide_eq_false (show ¬ s - 1 < (l.2.length : Int) + 1 by omega)]
        rfl⟩
theorem cycle_cb {c : T_api_Cpu} {op s F : Int} (g : Going c op true s F) (h : 0 ≤ op ∧ op ≤ 255) (hs : 2 ≤ s ∧ s ≤ 100) : ∃ m, F24 ⟨c⟩ = some (m, decide (s - 2 < (plen op true (tkn F op true) : Int))) := by
  have e42 := going_taken g h
  have e41 := E41 (op, true, tkn F op true) h
  obtain ⟨g1, g2, g3, g4, g5, g6, g7⟩ := g
  have e40 : f40 ⟨c⟩ = false := by
    have : f40 ⟨c⟩ = bif c.Op == 203 then !c.Cb else false := rfl
    rw [this, g5]; cases c.Op == 203 <;> rfl
  have w1 := i64_id s (by omega)
  have w2 := i64_id (s - 1) (by omega)
  have w3 : IntKind.wrap .i64 (s - 1 - 1) = s - 2 := (i64_id _ (by omega)).trans (by omega)
  have s1 : (s == 1) = false := beq_false_of_ne (by omega)
  unfold F24 G24 plen
  cases ht : t41 (op, true, tkn F op true) with
  | none =>
    rw [ht] at e41
    exact ⟨⟨0, 0, 0⟩, by simp [Gd.run, Gd.k, Gd.z, g4, g5, g6, e40, selB, e42, e41, w1, w2, w3, s1, show ¬ s - 2 < 0 by omega, show 0 ≤ s - 2 by omega, show 2 ≤ s by omega, show ¬ s < 2 by omega]⟩
  | some l =>
    rw [ht] at e41
    by_cases hl : s - 2 < ((l.2.length + 1 : Nat) : Int)
    · refine ⟨List.getD (l.1 :: l.2) (Int.toNat (s - 2)) ⟨0, 0, 0⟩, ?_⟩
      have k1 : (s - 2).toNat < l.2.length + 1 := by omega
      simp [Gd.run, Gd.k, Gd.z, Gd.ae, Gd.le, g4, g5, g6, e40, selB, e42, e41, w1, w2, w3, s1, show ¬ s - 2 < 0 by omega, show ¬ s < 2 by omega, show 2 ≤ s by omega, hl]
      rw [decide_eq_false (show ¬ (l.2.length : Int) + 1 ≤ s - 2 by omega), decide_eq_true (show s - 2 < (l.2.length : Int) + 1 by omega)]
      rfl
    · exact ⟨⟨0, 0, 0⟩, by
        simp [Gd.run, Gd.k, Gd.z, Gd.ae, Gd.le, g4, g5, g6, e40, selB, e42, e41, w1, w2, w3, s1, show ¬ s - 2 < 0 by omega, show ¬ s < 2 by omega, show 2 ≤ s by omega, hl]
        rw [decide_eq_true (show (l.2.length : Int) + 1 ≤ s - 2 by omega), decide_eq_false (show ¬ s - 2 < (l.2.length : Int) + 1 by omega)]
        rfl⟩

theorem cycle_two {c : T_api_Cpu} {F : Int} (g : Going c 203 false 1 F) : F24 ⟨c⟩ = some (⟨0, 0, 0⟩, true) := by
  obtain ⟨g1, g2, g3, g4, g5, g6, g7⟩ := g
  have e40 : f40 ⟨c⟩ = true := by
    have : f40 ⟨c⟩ = bif c.Op == 203 then !c.Cb else false := rfl
    rw [this, g4, g5]; rfl
  unfold F24 G24
  simp [Gd.run, Gd.k, Gd.z, g5, g6, e40, selB]

theorem busy_step0 {c : T_api_Cpu} (h : c.Step = 0) : F11 c = some false := by
  have e20 : F20 ⟨c⟩ = some false := by
    unfold F20 G20
    cases hw : f27 ⟨c⟩ <;> simp [Gd.run, Gd.k, Gd.z, hw, h]
  unfold F11 G11
  simp [Gd.run, Gd.k, Gd.z, e20]
theorem not_waits {c : T_api_Cpu} {op : Int} {cb : Bool} {s F : Int} (g : Going c op cb s F) : f27 ⟨c⟩ = false := by
  have : f27 ⟨c⟩ = bif c.Mode == 1 then true else bif c.Mode == 2 then true else c.Mode == 3 := rfl
  rw [this, g.2.2.1]; rfl
theorem busy_due {c : T_api_Cpu} {op : Int} {cb : Bool} {s F : Int} {m : T_api_Micro} (g : Going c op cb s F) (hs : s ≠ 0) (h : F24 ⟨c⟩ = some (m, true)) : F20 ⟨c⟩ = some true := by
  have e27 := not_waits g
  obtain ⟨g1, g2, g3, g4, g5, g6, g7⟩ := g
  unfold F20 G20
  simp [Gd.run, Gd.k, Gd.z, e27, g3, g6, beq_false_of_ne hs, h]
theorem busy_due' {c : T_api_Cpu} {op : Int} {cb : Bool} {s F : Int} {m : T_api_Micro} (g : Going c op cb s F) (hs : s ≠ 0) (h : F24 ⟨c⟩ = some (m, true)) : F11 c = some true := by
  unfold F11 G11
  simp [Gd.run, Gd.k, Gd.z, busy_due g hs h]

theorem want_due {c : T_api_Cpu} {op : Int} {cb : Bool} {s F : Int} {m : T_api_Micro} (g : Going c op cb s F) (ho : 0 ≤ op ∧ op ≤ 255) (hs : s ≠ 0) (h : F24 ⟨c⟩ = some (m, true)) : ∃ a tk, F10 (c, 0) = some (c, a, tk) ∧ (f23 ⟨c⟩ = true → a.Kind = 1) := by
  have e20 := busy_due g hs h
  obtain ⟨g1, g2, g3, g4, g5, g6, g7⟩ := g
  have e26 := fun v => E26 (⟨c⟩, v) (by rw [g4]; exact ho)
  cases h23 : f23 ⟨c⟩ with
  | true =>
    refine ⟨⟨1, c.R.PC, 0⟩, -1, ?_, fun _ => rfl⟩
    unfold F10 G10
    simp [Gd.run, Gd.k, Gd.z, g3, e20, h23]
  | false =>
    cases hb1 : m.Bus == 1 with
    | true =>
      refine ⟨⟨2, t25 (⟨c⟩, m.Place), 0⟩, -1, ?_, fun h => by cases h⟩
      unfold F10 G10
      simp [Gd.run, Gd.k, Gd.z, g3, e20, h23, h, hb1, E25]
    | false =>
      cases hb2 : m.Bus == 2 with
      | true =>
        refine ⟨⟨3, t25 (⟨c⟩, m.Place), t26 (⟨c⟩, m.z_Value)⟩, -1, ?_, fun h => by cases h⟩
        unfold F10 G10
        simp [Gd.run, Gd.k, Gd.z, g3, e20, h23, h, hb1, hb2, E25, e26]
      | false =>
        refine ⟨⟨0, 0, 0⟩, -1, ?_, fun h => by cases h⟩
        unfold F10 G10
        simp [Gd.run, Gd.k, Gd.z, g3, e20, h23, h, hb1, hb2]

theorem DS31 (x : X31) (h0 : (0 : Int) ≤ x.1.Cpu.Op ∧ x.1.Cpu.Op ≤ (255 : Int)) : (G31 x).wp (fun y => y.Cpu.Step = 0) := by
  simp [G31, Gd.wp, Gd.k, Gd.z, E45, E50, E51, E52, R50, R51, R52, h0]
theorem S31 (x : X31) (h0 : (0 : Int) ≤ x.1.Cpu.Op ∧ x.1.Cpu.Op ≤ (255 : Int)) : (t31 x).Cpu.Step = 0 := getD_q (Q := fun y : Y31 => y.Cpu.Step = 0) (Gd.wp_ok (DS31 x h0))

/-- A cycle of the plan. -/
theorem done_due {c : T_api_Cpu} {op : Int} {cb : Bool} {s F v : Int} {m : T_api_Micro} (g : Going c op cb s F) (ho : 0 ≤ op ∧ op ≤ 255) (hs : 1 ≤ s ∧ s ≤ 50) (h : F24 ⟨c⟩ = some (m, true)) (h23 : f23 ⟨c⟩ = false) :
    ∃ c', Going c' op cb (s + 1) F ∧ ∀ m' b, F24 ⟨c'⟩ = some (m', b) → F12 (c, v, 0) = some (bif b then c' else (t31 (⟨c'⟩, 0)).Cpu) := by
  have e20 := busy_due g (by omega) h
  have e27 := not_waits g
  have hg := g
  obtain ⟨g1, g2, g3, g4, g5, g6, g7⟩ := g
  have ho' : (0 : Int) ≤ c.Op ∧ c.Op ≤ 255 := by rw [g4]; exact ho
  obtain ⟨r1, r2, r3, r4, r5, r6, r7⟩ := R30 (⟨c⟩, v) ho'
  have r8 := L30 (⟨c⟩, v) ho'
  have gg : Going { (t30 (⟨c⟩, v)).Cpu with Mode := 0 } op cb (s + 1) F := by
    refine ⟨r1.trans g1, r2.trans g2, rfl, r5.trans g4, r6.trans g5, ?_, r8.trans g7⟩
    show (t30 (⟨c⟩, v)).Cpu.Step = s + 1
    rw [r7]
    show IntKind.wrap .u8 (c.Step + 1) = s + 1
    have w8 : ∀ y : Int, IntKind.wrap .u8 y = y % 256 := fun y => by simp [IntKind.wrap, IntKind.bits, IntKind.signed]
    rw [g6, w8]; omega
  refine ⟨_, gg, fun m' b hc => ?_⟩
  have e31 := E31 (⟨{ (t30 (⟨c⟩, v)).Cpu with Mode := 0 }⟩, 0) (by show (0 : Int) ≤ (t30 (⟨c⟩, v)).Cpu.Op ∧ _; rw [r5]; exact ho')
  have b0 : bits .and .u8 (0 : Int) 31 = 0 := rfl
  unfold F12 G12
  simp only [Gd.run, Gd.k, Gd.z, e27, e20, h23, g3, E30 (⟨c⟩, v) ho', hc, b0, e31, cond_false, cond_true, Option.bind_some, Bool.not_true, Bool.not_false, show ((0 : Int) == 4) = false from rfl]
  cases b <;> rfl

/-- The fetch behind 203. -/
theorem done_two {c : T_api_Cpu} {F v : Int} (g : Going c 203 false 1 F) (hv : 0 ≤ v ∧ v ≤ 255) :
    ∃ c', Going c' v true 2 F ∧ ∀ m' b, F24 ⟨c'⟩ = some (m', b) → F12 (c, v, 0) = some (bif b then c' else (t31 (⟨c'⟩, 0)).Cpu) := by
  have e20 := busy_due g (by omega) (cycle_two g)
  have e27 := not_waits g
  obtain ⟨g1, g2, g3, g4, g5, g6, g7⟩ := g
  have h40 : f40 ⟨c⟩ = true := by
    have : f40 ⟨c⟩ = bif c.Op == 203 then !c.Cb else false := rfl
    rw [this, g4, g5]; rfl
  have h23 : f23 ⟨c⟩ = true := by
    have : f23 ⟨c⟩ = bif c.Step == 1 then (bif f40 ⟨c⟩ then true else c.Cb) else false := rfl
    rw [this, g6, h40]; rfl
  refine ⟨{ c with R := { c.R with PC := IntKind.wrap .u16 (c.R.PC + 1) }, Mode := 0, Op := v, Cb := true, Step := 2 }, ⟨g1, g2, rfl, rfl, rfl, rfl, g7⟩, fun m' b hc => ?_⟩
  have e31 := E31 (⟨{ c with R := { c.R with PC := IntKind.wrap .u16 (c.R.PC + 1) }, Mode := 0, Op := v, Cb := true, Step := 2 }⟩, 0) hv
  have b0 : bits .and .u8 (0 : Int) 31 = 0 := rfl
  unfold F12 G12
  simp only [Gd.run, Gd.k, Gd.z, e27, e20, h23, g3, hc, b0, e31, cond_false, cond_true, Option.bind_some, Bool.not_true, Bool.not_false, show ((0 : Int) == 4) = false from rfl]
  cases b <;> rfl
end Go.Gen.Try
