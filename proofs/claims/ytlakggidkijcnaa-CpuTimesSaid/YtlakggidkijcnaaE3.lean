import Derived.Test.YtlakggidkijcnaaBt
set_option linter.all false
set_option linter.all false
namespace Go.Gen.Try
open Go Go.LE

theorem D45 (x : X45) (h0 : (0 : Int) ≤ x.Cpu.Op ∧ x.Cpu.Op ≤ (255 : Int)) : (G45 x).wp (fun _ => True) := by
  simp [G45, Gd.wp, Gd.k, Gd.z, Gd.zl, Gd.ix, Gd.ia, Gd.lx, Gd.sx, Gd.rx, Gd.q, Gd.ae, Gd.le, Gd.lf, Gd.li, Gd.ap, Gd.al, E15, E16, h0]
noncomputable def t45 (x : X45) : Y45 := (F45 x).getD default
theorem E45 (x : X45) (h0 : (0 : Int) ≤ x.Cpu.Op ∧ x.Cpu.Op ≤ (255 : Int)) : F45 x = some (t45 x) := getD_is (Gd.wp_ok (D45 x h0))
theorem D42 (x : X42) (h0 : (0 : Int) ≤ x.Cpu.Op ∧ x.Cpu.Op ≤ (255 : Int)) : (G42 x).wp (fun _ => True) := by
  simp [G42, Gd.wp, Gd.k, Gd.z, Gd.zl, Gd.ix, Gd.ia, Gd.lx, Gd.sx, Gd.rx, Gd.q, Gd.ae, Gd.le, Gd.lf, Gd.li, Gd.ap, Gd.al, E45, h0]
noncomputable def t42 (x : X42) : Y42 := (F42 x).getD default
theorem E42 (x : X42) (h0 : (0 : Int) ≤ x.Cpu.Op ∧ x.Cpu.Op ≤ (255 : Int)) : F42 x = some (t42 x) := getD_is (Gd.wp_ok (D42 x h0))
theorem D36 (x : X36) (h0 : (0 : Int) ≤ x.1 ∧ x.1 ≤ (255 : Int)) : (G36 x).wp (fun _ => True) := by
  simp [G36, Gd.wp, Gd.k, Gd.z, Gd.zl, Gd.ix, Gd.ia, Gd.lx, Gd.sx, Gd.rx, Gd.q, Gd.ae, Gd.le, Gd.lf, Gd.li, Gd.ap, Gd.al, E15, E16, h0]
noncomputable def t36 (x : X36) : Y36 := (F36 x).getD default
theorem E36 (x : X36) (h0 : (0 : Int) ≤ x.1 ∧ x.1 ≤ (255 : Int)) : F36 x = some (t36 x) := getD_is (Gd.wp_ok (D36 x h0))
theorem D87 (x : X87) : (G87 x).wp (fun _ => True) := by
  simp [G87, Gd.wp, Gd.k, Gd.z, Gd.zl, Gd.ix, Gd.ia, Gd.lx, Gd.sx, Gd.rx, Gd.q, Gd.ae, Gd.le, Gd.lf, Gd.li, Gd.ap, Gd.al]
  rw [i64_and3]; omega
noncomputable def t87 (x : X87) : Y87 := (F87 x).getD default
theorem E87 (x : X87) : F87 x = some (t87 x) := getD_is (Gd.wp_ok (D87 x))
theorem D58 (x : X58) : (G58 x).wp (fun _ => True) := by
  simp [G58, Gd.wp, Gd.k, Gd.z, Gd.zl, Gd.ix, Gd.ia, Gd.lx, Gd.sx, Gd.rx, Gd.q, Gd.ae, Gd.le, Gd.lf, Gd.li, Gd.ap, Gd.al, E87]
noncomputable def t58 (x : X58) : Y58 := (F58 x).getD default
theorem E58 (x : X58) : F58 x = some (t58 x) := getD_is (Gd.wp_ok (D58 x))
theorem D24 (x : X24) (h0 : (0 : Int) ≤ x.Cpu.Op ∧ x.Cpu.Op ≤ (255 : Int)) : (G24 x).wp (fun _ => True) := by
  simp [G24, Gd.wp, Gd.k, Gd.z, Gd.zl, Gd.ix, Gd.ia, Gd.lx, Gd.sx, Gd.rx, Gd.q, Gd.ae, Gd.le, Gd.lf, Gd.li, Gd.ap, Gd.al, E41, E42, h0]
  exact ⟨fun hc _ => ⟨fun _ _ a b _ h1 h2 => ⟨h1, h2⟩, hc⟩, fun hc _ => ⟨hc, fun _ a b _ h1 h2 => ⟨h1, h2⟩⟩⟩
noncomputable def t24 (x : X24) : Y24 := (F24 x).getD default
theorem E24 (x : X24) (h0 : (0 : Int) ≤ x.Cpu.Op ∧ x.Cpu.Op ≤ (255 : Int)) : F24 x = some (t24 x) := getD_is (Gd.wp_ok (D24 x h0))
theorem D20 (x : X20) (h0 : (0 : Int) ≤ x.Cpu.Op ∧ x.Cpu.Op ≤ (255 : Int)) : (G20 x).wp (fun _ => True) := by
  simp [G20, Gd.wp, Gd.k, Gd.z, Gd.zl, Gd.ix, Gd.ia, Gd.lx, Gd.sx, Gd.rx, Gd.q, Gd.ae, Gd.le, Gd.lf, Gd.li, Gd.ap, Gd.al, E24, h0]
noncomputable def t20 (x : X20) : Y20 := (F20 x).getD default
theorem E20 (x : X20) (h0 : (0 : Int) ≤ x.Cpu.Op ∧ x.Cpu.Op ≤ (255 : Int)) : F20 x = some (t20 x) := getD_is (Gd.wp_ok (D20 x h0))
theorem R21 (x : X21) : (fun y => y.2.Cpu.Op = x.1.Cpu.Op) (f21 x) := by
  cases h : x.1.Cpu.Ime <;> cases h2 : x.1.Cpu.Arm <;> cases h3 : (x.2 != 0) <;> simp [f21, G21, Gd.val, Gd.z, h, h2, h3]
theorem D63 (x : X63) : (G63 x).wp (fun _ => True) := by
  simp [G63, Gd.wp, Gd.k, Gd.z, Gd.zl, Gd.ix, Gd.ia, Gd.lx, Gd.sx, Gd.rx, Gd.q, Gd.ae, Gd.le, Gd.lf, Gd.li, Gd.ap, Gd.al]
  rw [v94]
  by_cases c1 : x.2 < 0 ∨ 7 < x.2
  · rw [if_pos c1]; intro h; exact absurd h (by decide)
  · intro _; omega
noncomputable def t63 (x : X63) : Y63 := (F63 x).getD default
theorem E63 (x : X63) : F63 x = some (t63 x) := getD_is (Gd.wp_ok (D63 x))
theorem D46 (x : X46) : (G46 x).wp (fun _ => True) := by
  simp [G46, Gd.wp, Gd.k, Gd.z, Gd.zl, Gd.ix, Gd.ia, Gd.lx, Gd.sx, Gd.rx, Gd.q, Gd.ae, Gd.le, Gd.lf, Gd.li, Gd.ap, Gd.al, E63]
noncomputable def t46 (x : X46) : Y46 := (F46 x).getD default
theorem E46 (x : X46) : F46 x = some (t46 x) := getD_is (Gd.wp_ok (D46 x))
theorem D61 (x : X61) : (G61 x).wp (fun _ => True) := by
  simp [G61, Gd.wp, Gd.k, Gd.z, Gd.zl, Gd.ix, Gd.ia, Gd.lx, Gd.sx, Gd.rx, Gd.q, Gd.ae, Gd.le, Gd.lf, Gd.li, Gd.ap, Gd.al]
  intro h1 h2 h3; rw [v92]; split <;> simp [IntKind.wrap_i64] <;> omega
noncomputable def t61 (x : X61) : Y61 := (F61 x).getD default
theorem E61 (x : X61) : F61 x = some (t61 x) := getD_is (Gd.wp_ok (D61 x))
theorem D43 (x : X43) : (G43 x).wp (fun _ => True) := by
  simp [G43, Gd.wp, Gd.k, Gd.z, Gd.zl, Gd.ix, Gd.ia, Gd.lx, Gd.sx, Gd.rx, Gd.q, Gd.ae, Gd.le, Gd.lf, Gd.li, Gd.ap, Gd.al, E61]
noncomputable def t43 (x : X43) : Y43 := (F43 x).getD default
theorem E43 (x : X43) : F43 x = some (t43 x) := getD_is (Gd.wp_ok (D43 x))
theorem D99 (x : X99) : (G99 x).wp (fun _ => True) := by
  simp [G99, Gd.wp, Gd.k, Gd.z, Gd.zl, Gd.ix, Gd.ia, Gd.lx, Gd.sx, Gd.rx, Gd.q, Gd.ae, Gd.le, Gd.lf, Gd.li, Gd.ap, Gd.al]
  intro a _; exact ⟨fun _ => a, fun _ => a⟩
noncomputable def t99 (x : X99) : Y99 := (F99 x).getD default
theorem E99 (x : X99) : F99 x = some (t99 x) := getD_is (Gd.wp_ok (D99 x))
theorem D98 (x : X98) : (G98 x).wp (fun _ => True) := by
  simp [G98, Gd.wp, Gd.k, Gd.z, Gd.zl, Gd.ix, Gd.ia, Gd.lx, Gd.sx, Gd.rx, Gd.q, Gd.ae, Gd.le, Gd.lf, Gd.li, Gd.ap, Gd.al, E99]
noncomputable def t98 (x : X98) : Y98 := (F98 x).getD default
theorem E98 (x : X98) : F98 x = some (t98 x) := getD_is (Gd.wp_ok (D98 x))
theorem D100 (x : X100) : (G100 x).wp (fun _ => True) := by
  simp [G100, Gd.wp, Gd.k, Gd.z, Gd.zl, Gd.ix, Gd.ia, Gd.lx, Gd.sx, Gd.rx, Gd.q, Gd.ae, Gd.le, Gd.lf, Gd.li, Gd.ap, Gd.al, E99]
noncomputable def t100 (x : X100) : Y100 := (F100 x).getD default
theorem E100 (x : X100) : F100 x = some (t100 x) := getD_is (Gd.wp_ok (D100 x))
theorem D66 (x : X66) : (G66 x).wp (fun _ => True) := by
  simp [G66, Gd.wp, Gd.k, Gd.z, Gd.zl, Gd.ix, Gd.ia, Gd.lx, Gd.sx, Gd.rx, Gd.q, Gd.ae, Gd.le, Gd.lf, Gd.li, Gd.ap, Gd.al, E100, E98]
noncomputable def t66 (x : X66) : Y66 := (F66 x).getD default
theorem E66 (x : X66) : F66 x = some (t66 x) := getD_is (Gd.wp_ok (D66 x))
theorem D67 (x : X67) : (G67 x).wp (fun _ => True) := by
  simp [G67, Gd.wp, Gd.k, Gd.z, Gd.zl, Gd.ix, Gd.ia, Gd.lx, Gd.sx, Gd.rx, Gd.q, Gd.ae, Gd.le, Gd.lf, Gd.li, Gd.ap, Gd.al, E99]
noncomputable def t67 (x : X67) : Y67 := (F67 x).getD default
theorem E67 (x : X67) : F67 x = some (t67 x) := getD_is (Gd.wp_ok (D67 x))
theorem D68 (x : X68) : (G68 x).wp (fun _ => True) := by
  simp [G68, Gd.wp, Gd.k, Gd.z, Gd.zl, Gd.ix, Gd.ia, Gd.lx, Gd.sx, Gd.rx, Gd.q, Gd.ae, Gd.le, Gd.lf, Gd.li, Gd.ap, Gd.al, E99]
noncomputable def t68 (x : X68) : Y68 := (F68 x).getD default
theorem E68 (x : X68) : F68 x = some (t68 x) := getD_is (Gd.wp_ok (D68 x))
theorem D47 (x : X47) : (G47 x).wp (fun _ => True) := by
  simp [G47, Gd.wp, Gd.k, Gd.z, Gd.zl, Gd.ix, Gd.ia, Gd.lx, Gd.sx, Gd.rx, Gd.q, Gd.ae, Gd.le, Gd.lf, Gd.li, Gd.ap, Gd.al, E46, E66, E67, E68]
noncomputable def t47 (x : X47) : Y47 := (F47 x).getD default
theorem E47 (x : X47) : F47 x = some (t47 x) := getD_is (Gd.wp_ok (D47 x))
theorem D26 (x : X26) (h0 : (0 : Int) ≤ x.1.Cpu.Op ∧ x.1.Cpu.Op ≤ (255 : Int)) : (G26 x).wp (fun _ => True) := by
  simp [G26, Gd.wp, Gd.k, Gd.z, Gd.zl, Gd.ix, Gd.ia, Gd.lx, Gd.sx, Gd.rx, Gd.q, Gd.ae, Gd.le, Gd.lf, Gd.li, Gd.ap, Gd.al, E43, E45, E46, E47, h0]
noncomputable def t26 (x : X26) : Y26 := (F26 x).getD default
theorem E26 (x : X26) (h0 : (0 : Int) ≤ x.1.Cpu.Op ∧ x.1.Cpu.Op ≤ (255 : Int)) : F26 x = some (t26 x) := getD_is (Gd.wp_ok (D26 x h0))
theorem D22 (x : X22) (h0 : (0 : Int) ≤ x.1.Cpu.Op ∧ x.1.Cpu.Op ≤ (255 : Int)) : (G22 x).wp (fun y => y.2.2.Cpu.Op = x.1.Cpu.Op) := by
  simp [G22, Gd.wp, Gd.k, Gd.z, Gd.zl, Gd.ix, Gd.ia, Gd.lx, Gd.sx, Gd.rx, Gd.q, Gd.ae, Gd.le, Gd.lf, Gd.li, Gd.ap, Gd.al, E26, h0]
noncomputable def t22 (x : X22) : Y22 := (F22 x).getD default
theorem E22 (x : X22) (h0 : (0 : Int) ≤ x.1.Cpu.Op ∧ x.1.Cpu.Op ≤ (255 : Int)) : F22 x = some (t22 x) := getD_is (Gd.wp_ok (D22 x h0))
theorem R22 (x : X22) (h0 : (0 : Int) ≤ x.1.Cpu.Op ∧ x.1.Cpu.Op ≤ (255 : Int)) : (fun y => y.2.2.Cpu.Op = x.1.Cpu.Op) (t22 x) := getD_q (Gd.wp_ok (D22 x h0))
theorem D25 (x : X25) : (G25 x).wp (fun _ => True) := by
  simp [G25, Gd.wp, Gd.k, Gd.z, Gd.zl, Gd.ix, Gd.ia, Gd.lx, Gd.sx, Gd.rx, Gd.q, Gd.ae, Gd.le, Gd.lf, Gd.li, Gd.ap, Gd.al, E43]
noncomputable def t25 (x : X25) : Y25 := (F25 x).getD default
theorem E25 (x : X25) : F25 x = some (t25 x) := getD_is (Gd.wp_ok (D25 x))
theorem D10 (x : X10) (h0 : (0 : Int) ≤ x.1.Op ∧ x.1.Op ≤ (255 : Int)) : (G10 x).wp (fun y => y.1.Op = x.1.Op) := by
  simp [G10, Gd.wp, Gd.k, Gd.z, Gd.zl, Gd.ix, Gd.ia, Gd.lx, Gd.sx, Gd.rx, Gd.q, Gd.ae, Gd.le, Gd.lf, Gd.li, Gd.ap, Gd.al, E20, E22, E24, E25, E26, R21, R22, h0]
  exact fun _ => ⟨fun h _ => ⟨by omega, fun _ _ => by omega⟩, fun _ h _ _ => by omega⟩
noncomputable def t10 (x : X10) : Y10 := (F10 x).getD default
theorem E10 (x : X10) (h0 : (0 : Int) ≤ x.1.Op ∧ x.1.Op ≤ (255 : Int)) : F10 x = some (t10 x) := getD_is (Gd.wp_ok (D10 x h0))
theorem R10 (x : X10) (h0 : (0 : Int) ≤ x.1.Op ∧ x.1.Op ≤ (255 : Int)) : (fun y => y.1.Op = x.1.Op) (t10 x) := getD_q (Gd.wp_ok (D10 x h0))
theorem R28 (x : X28) : (fun y => y.Cpu.Op = x.Cpu.Op) (f28 x) := by
  cases h1 : x.Cpu.Step == 1 <;> cases h2 : x.Cpu.Step == 2 <;> cases h3 : x.Cpu.Step == 3 <;> cases h4 : x.Cpu.Step == 4 <;> simp [f28, G28, Gd.val, Gd.z, h1, h2, h3, h4]
theorem R29 (x : X29) : (fun y => y.Cpu.Op = x.2) (f29 x) := by
  cases h : x.1.Cpu.Bug <;> simp [f29, G29, Gd.val, Gd.z, h]
theorem D103 (x : X103) : (G103 x).wp (fun _ => True) := by
  simp [G103, Gd.wp, Gd.k, Gd.z, Gd.zl, Gd.ix, Gd.ia, Gd.lx, Gd.sx, Gd.rx, Gd.q, Gd.ae, Gd.le, Gd.lf, Gd.li, Gd.ap, Gd.al]
  rw [v94]
  by_cases c1 : x.2.1 < 0 ∨ 7 < x.2.1
  · rw [if_pos c1]; intro h; exact absurd h (by decide)
  · intro _; omega
noncomputable def t103 (x : X103) : Y103 := (F103 x).getD default
theorem E103 (x : X103) : F103 x = some (t103 x) := getD_is (Gd.wp_ok (D103 x))
theorem D71 (x : X71) : (G71 x).wp (fun y => y.Cpu.Ime = x.1.Cpu.Ime ∧ y.Cpu.Arm = x.1.Cpu.Arm ∧ y.Cpu.Bug = x.1.Cpu.Bug ∧ y.Cpu.Mode = x.1.Cpu.Mode ∧ y.Cpu.Op = x.1.Cpu.Op ∧ y.Cpu.Cb = x.1.Cpu.Cb ∧ y.Cpu.Step = x.1.Cpu.Step ∧ y.Cpu.Lo = x.1.Cpu.Lo ∧ y.Cpu.Hi = x.1.Cpu.Hi) := by
  simp [G71, Gd.wp, Gd.k, Gd.z, Gd.zl, Gd.ix, Gd.ia, Gd.lx, Gd.sx, Gd.rx, Gd.q, Gd.ae, Gd.le, Gd.lf, Gd.li, Gd.ap, Gd.al, E103]
noncomputable def t71 (x : X71) : Y71 := (F71 x).getD default
theorem E71 (x : X71) : F71 x = some (t71 x) := getD_is (Gd.wp_ok (D71 x))
theorem R71 (x : X71) : (fun y => y.Cpu.Ime = x.1.Cpu.Ime ∧ y.Cpu.Arm = x.1.Cpu.Arm ∧ y.Cpu.Bug = x.1.Cpu.Bug ∧ y.Cpu.Mode = x.1.Cpu.Mode ∧ y.Cpu.Op = x.1.Cpu.Op ∧ y.Cpu.Cb = x.1.Cpu.Cb ∧ y.Cpu.Step = x.1.Cpu.Step ∧ y.Cpu.Lo = x.1.Cpu.Lo ∧ y.Cpu.Hi = x.1.Cpu.Hi) (t71 x) := getD_q (Gd.wp_ok (D71 x))
theorem D70 (x : X70) : (G70 x).wp (fun _ => True) := by
  simp [G70, Gd.wp, Gd.k, Gd.z, Gd.zl, Gd.ix, Gd.ia, Gd.lx, Gd.sx, Gd.rx, Gd.q, Gd.ae, Gd.le, Gd.lf, Gd.li, Gd.ap, Gd.al]
  intro h1 h2 h3; rw [v92]; split <;> simp [IntKind.wrap_i64] <;> omega
noncomputable def t70 (x : X70) : Y70 := (F70 x).getD default
theorem E70 (x : X70) : F70 x = some (t70 x) := getD_is (Gd.wp_ok (D70 x))
theorem D49 (x : X49) : (G49 x).wp (fun y => y.Cpu.Ime = x.1.Cpu.Ime ∧ y.Cpu.Arm = x.1.Cpu.Arm ∧ y.Cpu.Bug = x.1.Cpu.Bug ∧ y.Cpu.Mode = x.1.Cpu.Mode ∧ y.Cpu.Op = x.1.Cpu.Op ∧ y.Cpu.Cb = x.1.Cpu.Cb ∧ y.Cpu.Step = x.1.Cpu.Step ∧ y.Cpu.Lo = x.1.Cpu.Lo ∧ y.Cpu.Hi = x.1.Cpu.Hi) := by
  simp [G49, Gd.wp, Gd.k, Gd.z, Gd.zl, Gd.ix, Gd.ia, Gd.lx, Gd.sx, Gd.rx, Gd.q, Gd.ae, Gd.le, Gd.lf, Gd.li, Gd.ap, Gd.al, E70]
noncomputable def t49 (x : X49) : Y49 := (F49 x).getD default
theorem E49 (x : X49) : F49 x = some (t49 x) := getD_is (Gd.wp_ok (D49 x))
theorem R49 (x : X49) : (fun y => y.Cpu.Ime = x.1.Cpu.Ime ∧ y.Cpu.Arm = x.1.Cpu.Arm ∧ y.Cpu.Bug = x.1.Cpu.Bug ∧ y.Cpu.Mode = x.1.Cpu.Mode ∧ y.Cpu.Op = x.1.Cpu.Op ∧ y.Cpu.Cb = x.1.Cpu.Cb ∧ y.Cpu.Step = x.1.Cpu.Step ∧ y.Cpu.Lo = x.1.Cpu.Lo ∧ y.Cpu.Hi = x.1.Cpu.Hi) (t49 x) := getD_q (Gd.wp_ok (D49 x))
theorem D50 (x : X50) : (G50 x).wp (fun y => y.Cpu.Ime = x.1.Cpu.Ime ∧ y.Cpu.Arm = x.1.Cpu.Arm ∧ y.Cpu.Bug = x.1.Cpu.Bug ∧ y.Cpu.Mode = x.1.Cpu.Mode ∧ y.Cpu.Op = x.1.Cpu.Op ∧ y.Cpu.Cb = x.1.Cpu.Cb ∧ y.Cpu.Step = x.1.Cpu.Step ∧ y.Cpu.Lo = x.1.Cpu.Lo ∧ y.Cpu.Hi = x.1.Cpu.Hi) := by
  simp [G50, Gd.wp, Gd.k, Gd.z, Gd.zl, Gd.ix, Gd.ia, Gd.lx, Gd.sx, Gd.rx, Gd.q, Gd.ae, Gd.le, Gd.lf, Gd.li, Gd.ap, Gd.al, E43, E46, E49, E71, R49, R71]
noncomputable def t50 (x : X50) : Y50 := (F50 x).getD default
theorem E50 (x : X50) : F50 x = some (t50 x) := getD_is (Gd.wp_ok (D50 x))
theorem R50 (x : X50) : (fun y => y.Cpu.Ime = x.1.Cpu.Ime ∧ y.Cpu.Arm = x.1.Cpu.Arm ∧ y.Cpu.Bug = x.1.Cpu.Bug ∧ y.Cpu.Mode = x.1.Cpu.Mode ∧ y.Cpu.Op = x.1.Cpu.Op ∧ y.Cpu.Cb = x.1.Cpu.Cb ∧ y.Cpu.Step = x.1.Cpu.Step ∧ y.Cpu.Lo = x.1.Cpu.Lo ∧ y.Cpu.Hi = x.1.Cpu.Hi) (t50 x) := getD_q (Gd.wp_ok (D50 x))
theorem D51 (x : X51) : (G51 x).wp (fun y => y.Cpu.Arm = x.1.Cpu.Arm ∧ y.Cpu.Bug = x.1.Cpu.Bug ∧ y.Cpu.Mode = x.1.Cpu.Mode ∧ y.Cpu.Op = x.1.Cpu.Op ∧ y.Cpu.Cb = x.1.Cpu.Cb ∧ y.Cpu.Step = x.1.Cpu.Step ∧ y.Cpu.Lo = x.1.Cpu.Lo ∧ y.Cpu.Hi = x.1.Cpu.Hi) := by
  simp [G51, Gd.wp, Gd.k, Gd.z, Gd.zl, Gd.ix, Gd.ia, Gd.lx, Gd.sx, Gd.rx, Gd.q, Gd.ae, Gd.le, Gd.lf, Gd.li, Gd.ap, Gd.al, E43]
  intro _ _ h; omega
noncomputable def t51 (x : X51) : Y51 := (F51 x).getD default
theorem E51 (x : X51) : F51 x = some (t51 x) := getD_is (Gd.wp_ok (D51 x))
theorem R51 (x : X51) : (fun y => y.Cpu.Arm = x.1.Cpu.Arm ∧ y.Cpu.Bug = x.1.Cpu.Bug ∧ y.Cpu.Mode = x.1.Cpu.Mode ∧ y.Cpu.Op = x.1.Cpu.Op ∧ y.Cpu.Cb = x.1.Cpu.Cb ∧ y.Cpu.Step = x.1.Cpu.Step ∧ y.Cpu.Lo = x.1.Cpu.Lo ∧ y.Cpu.Hi = x.1.Cpu.Hi) (t51 x) := getD_q (Gd.wp_ok (D51 x))
theorem D104 (x : X104) : (G104 x).wp (fun _ => True) := by
  simp [G104, Gd.wp, Gd.k, Gd.z, Gd.zl, Gd.ix, Gd.ia, Gd.lx, Gd.sx, Gd.rx, Gd.q, Gd.ae, Gd.le, Gd.lf, Gd.li, Gd.ap, Gd.al]
  intro a _; exact a
noncomputable def t104 (x : X104) : Y104 := (F104 x).getD default
theorem E104 (x : X104) : F104 x = some (t104 x) := getD_is (Gd.wp_ok (D104 x))
theorem D74 (x : X74) : (G74 x).wp (fun _ => True) := by
  simp [G74, Gd.wp, Gd.k, Gd.z, Gd.zl, Gd.ix, Gd.ia, Gd.lx, Gd.sx, Gd.rx, Gd.q, Gd.ae, Gd.le, Gd.lf, Gd.li, Gd.ap, Gd.al, E104]
noncomputable def t74 (x : X74) : Y74 := (F74 x).getD default
theorem E74 (x : X74) : F74 x = some (t74 x) := getD_is (Gd.wp_ok (D74 x))
theorem D75 (x : X75) : (G75 x).wp (fun _ => True) := by
  simp [G75, Gd.wp, Gd.k, Gd.z, Gd.zl, Gd.ix, Gd.ia, Gd.lx, Gd.sx, Gd.rx, Gd.q, Gd.ae, Gd.le, Gd.lf, Gd.li, Gd.ap, Gd.al, E66]
noncomputable def t75 (x : X75) : Y75 := (F75 x).getD default
theorem E75 (x : X75) : F75 x = some (t75 x) := getD_is (Gd.wp_ok (D75 x))
theorem D80 (x : X80) : (G80 x).wp (fun y => y.2.1.Cpu.Ime = x.1.Cpu.Ime ∧ y.2.1.Cpu.Arm = x.1.Cpu.Arm ∧ y.2.1.Cpu.Bug = x.1.Cpu.Bug ∧ y.2.1.Cpu.Mode = x.1.Cpu.Mode ∧ y.2.1.Cpu.Op = x.1.Cpu.Op ∧ y.2.1.Cpu.Cb = x.1.Cpu.Cb ∧ y.2.1.Cpu.Step = x.1.Cpu.Step ∧ y.2.1.Cpu.Lo = x.1.Cpu.Lo ∧ y.2.1.Cpu.Hi = x.1.Cpu.Hi) := by
  simp [G80, Gd.wp, Gd.k, Gd.z, Gd.zl, Gd.ix, Gd.ia, Gd.lx, Gd.sx, Gd.rx, Gd.q, Gd.ae, Gd.le, Gd.lf, Gd.li, Gd.ap, Gd.al, E43, E49, R49]
noncomputable def t80 (x : X80) : Y80 := (F80 x).getD default
theorem E80 (x : X80) : F80 x = some (t80 x) := getD_is (Gd.wp_ok (D80 x))
theorem R80 (x : X80) : (fun y => y.2.1.Cpu.Ime = x.1.Cpu.Ime ∧ y.2.1.Cpu.Arm = x.1.Cpu.Arm ∧ y.2.1.Cpu.Bug = x.1.Cpu.Bug ∧ y.2.1.Cpu.Mode = x.1.Cpu.Mode ∧ y.2.1.Cpu.Op = x.1.Cpu.Op ∧ y.2.1.Cpu.Cb = x.1.Cpu.Cb ∧ y.2.1.Cpu.Step = x.1.Cpu.Step ∧ y.2.1.Cpu.Lo = x.1.Cpu.Lo ∧ y.2.1.Cpu.Hi = x.1.Cpu.Hi) (t80 x) := getD_q (Gd.wp_ok (D80 x))
theorem D52 (x : X52) : (G52 x).wp (fun y => y.Cpu.Ime = x.1.Cpu.Ime ∧ y.Cpu.Arm = x.1.Cpu.Arm ∧ y.Cpu.Bug = x.1.Cpu.Bug ∧ y.Cpu.Mode = x.1.Cpu.Mode ∧ y.Cpu.Op = x.1.Cpu.Op ∧ y.Cpu.Cb = x.1.Cpu.Cb ∧ y.Cpu.Step = x.1.Cpu.Step ∧ y.Cpu.Lo = x.1.Cpu.Lo ∧ y.Cpu.Hi = x.1.Cpu.Hi) := by
  simp [G52, Gd.wp, Gd.k, Gd.z, Gd.zl, Gd.ix, Gd.ia, Gd.lx, Gd.sx, Gd.rx, Gd.q, Gd.ae, Gd.le, Gd.lf, Gd.li, Gd.ap, Gd.al, E46, E47, E71, E74, E75, E80, R71, R80]
noncomputable def t52 (x : X52) : Y52 := (F52 x).getD default
theorem E52 (x : X52) : F52 x = some (t52 x) := getD_is (Gd.wp_ok (D52 x))
theorem R52 (x : X52) : (fun y => y.Cpu.Ime = x.1.Cpu.Ime ∧ y.Cpu.Arm = x.1.Cpu.Arm ∧ y.Cpu.Bug = x.1.Cpu.Bug ∧ y.Cpu.Mode = x.1.Cpu.Mode ∧ y.Cpu.Op = x.1.Cpu.Op ∧ y.Cpu.Cb = x.1.Cpu.Cb ∧ y.Cpu.Step = x.1.Cpu.Step ∧ y.Cpu.Lo = x.1.Cpu.Lo ∧ y.Cpu.Hi = x.1.Cpu.Hi) (t52 x) := getD_q (Gd.wp_ok (D52 x))
theorem D31 (x : X31) (h0 : (0 : Int) ≤ x.1.Cpu.Op ∧ x.1.Cpu.Op ≤ (255 : Int)) : (G31 x).wp (fun y => y.Cpu.Op = x.1.Cpu.Op ∧ (x.1.Cpu.Mode = 0 → (t45 x.1).Kind ≠ 5 → y.Cpu.Mode ≠ 3)) := by
  simp [G31, Gd.wp, Gd.k, Gd.z, Gd.zl, Gd.ix, Gd.ia, Gd.lx, Gd.sx, Gd.rx, Gd.q, Gd.ae, Gd.le, Gd.lf, Gd.li, Gd.ap, Gd.al, E45, E50, E51, E52, R50, R51, R52, h0]
  (repeat' (first | (intro _) | (apply And.intro))) <;> first | omega | simp_all
noncomputable def t31 (x : X31) : Y31 := (F31 x).getD default
theorem E31 (x : X31) (h0 : (0 : Int) ≤ x.1.Cpu.Op ∧ x.1.Cpu.Op ≤ (255 : Int)) : F31 x = some (t31 x) := getD_is (Gd.wp_ok (D31 x h0))
theorem R31 (x : X31) (h0 : (0 : Int) ≤ x.1.Cpu.Op ∧ x.1.Cpu.Op ≤ (255 : Int)) : (fun y => y.Cpu.Op = x.1.Cpu.Op ∧ (x.1.Cpu.Mode = 0 → (t45 x.1).Kind ≠ 5 → y.Cpu.Mode ≠ 3)) (t31 x) := getD_q (Gd.wp_ok (D31 x h0))
theorem D30 (x : X30) (h0 : (0 : Int) ≤ x.1.Cpu.Op ∧ x.1.Cpu.Op ≤ (255 : Int)) : (G30 x).wp (fun y => y.Cpu.Ime = x.1.Cpu.Ime ∧ y.Cpu.Arm = x.1.Cpu.Arm ∧ y.Cpu.Bug = x.1.Cpu.Bug ∧ y.Cpu.Mode = x.1.Cpu.Mode ∧ y.Cpu.Op = x.1.Cpu.Op ∧ y.Cpu.Cb = x.1.Cpu.Cb ∧ y.Cpu.Step = IntKind.wrap .u8 (x.1.Cpu.Step + 1)) := by
  simp [G30, Gd.wp, Gd.k, Gd.z, Gd.zl, Gd.ix, Gd.ia, Gd.lx, Gd.sx, Gd.rx, Gd.q, Gd.ae, Gd.le, Gd.lf, Gd.li, Gd.ap, Gd.al, E24, E43, E49, R49, h0]
noncomputable def t30 (x : X30) : Y30 := (F30 x).getD default
theorem E30 (x : X30) (h0 : (0 : Int) ≤ x.1.Cpu.Op ∧ x.1.Cpu.Op ≤ (255 : Int)) : F30 x = some (t30 x) := getD_is (Gd.wp_ok (D30 x h0))
theorem R30 (x : X30) (h0 : (0 : Int) ≤ x.1.Cpu.Op ∧ x.1.Cpu.Op ≤ (255 : Int)) : (fun y => y.Cpu.Ime = x.1.Cpu.Ime ∧ y.Cpu.Arm = x.1.Cpu.Arm ∧ y.Cpu.Bug = x.1.Cpu.Bug ∧ y.Cpu.Mode = x.1.Cpu.Mode ∧ y.Cpu.Op = x.1.Cpu.Op ∧ y.Cpu.Cb = x.1.Cpu.Cb ∧ y.Cpu.Step = IntKind.wrap .u8 (x.1.Cpu.Step + 1)) (t30 x) := getD_q (Gd.wp_ok (D30 x h0))
theorem D12 (x : X12) (h0 : (0 : Int) ≤ x.1.Op ∧ x.1.Op ≤ (255 : Int)) (h1 : (0 : Int) ≤ x.2.1 ∧ x.2.1 ≤ (255 : Int)) : (G12 x).wp (fun y => y.Op = x.1.Op ∨ y.Op = x.2.1) := by
  simp [G12, Gd.wp, Gd.k, Gd.z, Gd.zl, Gd.ix, Gd.ia, Gd.lx, Gd.sx, Gd.rx, Gd.q, Gd.ae, Gd.le, Gd.lf, Gd.li, Gd.ap, Gd.al, E20, E24, E30, E31, R28, R29, R30, R31, h0, h1]
  intro _ _ _ _
  generalize t24 _ = z
  obtain ⟨a, b⟩ := z
  cases b
  · exact ⟨a, .inl rfl⟩
  · exact ⟨a, .inr rfl⟩
noncomputable def t12 (x : X12) : Y12 := (F12 x).getD default
theorem E12 (x : X12) (h0 : (0 : Int) ≤ x.1.Op ∧ x.1.Op ≤ (255 : Int)) (h1 : (0 : Int) ≤ x.2.1 ∧ x.2.1 ≤ (255 : Int)) : F12 x = some (t12 x) := getD_is (Gd.wp_ok (D12 x h0 h1))
theorem R12 (x : X12) (h0 : (0 : Int) ≤ x.1.Op ∧ x.1.Op ≤ (255 : Int)) (h1 : (0 : Int) ≤ x.2.1 ∧ x.2.1 ≤ (255 : Int)) : (fun y => y.Op = x.1.Op ∨ y.Op = x.2.1) (t12 x) := getD_q (Gd.wp_ok (D12 x h0 h1))
theorem D11 (x : X11) (h0 : (0 : Int) ≤ x.Op ∧ x.Op ≤ (255 : Int)) : (G11 x).wp (fun _ => True) := by
  simp [G11, Gd.wp, Gd.k, Gd.z, Gd.zl, Gd.ix, Gd.ia, Gd.lx, Gd.sx, Gd.rx, Gd.q, Gd.ae, Gd.le, Gd.lf, Gd.li, Gd.ap, Gd.al, E20, h0]
noncomputable def t11 (x : X11) : Y11 := (F11 x).getD default
theorem E11 (x : X11) (h0 : (0 : Int) ≤ x.Op ∧ x.Op ≤ (255 : Int)) : F11 x = some (t11 x) := getD_is (Gd.wp_ok (D11 x h0))
theorem D13 (x : X13) (h0 : (0 : Int) ≤ x ∧ x ≤ (255 : Int)) : (G13 x).wp (fun _ => True) := by
  simp [G13, Gd.wp, Gd.k, Gd.z, Gd.zl, Gd.ix, Gd.ia, Gd.lx, Gd.sx, Gd.rx, Gd.q, Gd.ae, Gd.le, Gd.lf, Gd.li, Gd.ap, Gd.al, E15, h0]
noncomputable def t13 (x : X13) : Y13 := (F13 x).getD default
theorem E13 (x : X13) (h0 : (0 : Int) ≤ x ∧ x ≤ (255 : Int)) : F13 x = some (t13 x) := getD_is (Gd.wp_ok (D13 x h0))
theorem D17 (x : X17) (h0 : (0 : Int) ≤ x.1 ∧ x.1 ≤ (255 : Int)) : (G17 x).wp (fun _ => True) := by
  simp [G17, Gd.wp, Gd.k, Gd.z, Gd.zl, Gd.ix, Gd.ia, Gd.lx, Gd.sx, Gd.rx, Gd.q, Gd.ae, Gd.le, Gd.lf, Gd.li, Gd.ap, Gd.al, E36, h0]
noncomputable def t17 (x : X17) : Y17 := (F17 x).getD default
theorem E17 (x : X17) (h0 : (0 : Int) ≤ x.1 ∧ x.1 ≤ (255 : Int)) : F17 x = some (t17 x) := getD_is (Gd.wp_ok (D17 x h0))
end Go.Gen.Try
