import Derived.Test.YtlakggidkijcnaaTimesQ
set_option linter.all false
set_option linter.all false
/- The plain law of CpuTimes, the end. -/
namespace Go.Gen.Try
open Go Go.LE

theorem kind_all : (List.range 256).all (fun i => ((t15 (i : Int)).Kind == 6) == ((i : Int) == 203)) = true := by kernel_rfl
theorem plain_all (tk : Bool) : (List.range 256).all (fun i => ((i : Int) == 203) || ((1 + (plen (i : Int) false tk : Int)) == bif t17 ((i : Int), decide ((t15 (i : Int)).Kind ≥ 43)) && tk then (t15 (i : Int)).Taken else (t15 (i : Int)).Cycles)) = true := by
  cases tk
  · exact Eq.trans (by kernel_rfl) rfl
  · exact Eq.trans (by kernel_rfl) rfl
theorem two_all (tk : Bool) : (List.range 256).all (fun i => ((2 + (plen (i : Int) true tk : Int)) == bif t17 ((i : Int), decide ((t16 (i : Int)).Kind ≥ 43)) && tk then (t16 (i : Int)).Taken else (t16 (i : Int)).Cycles)) = true := by
  cases tk
  · exact Eq.trans (by kernel_rfl) rfl
  · exact Eq.trans (by kernel_rfl) rfl
theorem low8 (w : Int) : low (bits .andNot .u8 w 15) := by
  have e : bits .andNot .u8 w 15 = IntKind.wrap .u8 ((BitVec.ofInt 8 w &&& ~~~ BitVec.ofInt 8 15).toNat : Nat) := rfl
  have h : (BitVec.ofInt 8 w &&& ~~~ BitVec.ofInt 8 15).toNat % 16 = 0 := by
    rw [BitVec.toNat_and, show (16 : Nat) = 2 ^ 4 from rfl, Nat.and_mod_two_pow, show (~~~ BitVec.ofInt 8 15).toNat % 2 ^ 4 = 0 from rfl, Nat.and_zero]
  rw [e]
  unfold low
  have w8 : ∀ y : Int, IntKind.wrap .u8 y = y % 256 := fun y => by simp [IntKind.wrap, IntKind.bits, IntKind.signed]
  rw [w8]
  omega
theorem low_tmod {F : Int} (h : low F) : (Int.tmod F 16 == 0) = true := by
  unfold low at h
  rw [Int.tmod_eq_zero_of_dvd (Int.dvd_of_emod_eq_zero h)]
  rfl

theorem kind_is (x : Int) (hx : 0 ≤ x ∧ x ≤ 255) : ((t15 x).Kind == 6) = (x == 203) := by
  obtain ⟨i, rfl, hi⟩ := byte_nat hx
  exact eq_of_beq (range_all kind_all hi)
theorem plain_is (x : Int) (hx : 0 ≤ x ∧ x ≤ 255) (hn : (x == 203) = false) (tk : Bool) : (1 + (plen x false tk : Int)) = bif t17 (x, decide ((t15 x).Kind ≥ 43)) && tk then (t15 x).Taken else (t15 x).Cycles := by
  obtain ⟨i, rfl, hi⟩ := byte_nat hx
  have := range_all (plain_all tk) hi
  rw [hn, Bool.false_or] at this
  exact eq_of_beq this
theorem two_is (x : Int) (hx : 0 ≤ x ∧ x ≤ 255) (tk : Bool) : (2 + (plen x true tk : Int)) = bif t17 (x, decide ((t16 x).Kind ≥ 43)) && tk then (t16 x).Taken else (t16 x).Cycles := by
  obtain ⟨i, rfl, hi⟩ := byte_nat hx
  exact eq_of_beq (range_all (two_all tk) hi)

theorem times (r : T_api_Regs) (own : Bool) (row : Option (Nat × Nat)) (L : List Int) (hL : ∀ x ∈ L, 0 ≤ x ∧ x ≤ 255) : F7 (r, own, row, L) = some true := by
  have e9 : f9 r = C0 { r with F := bits .andNot .u8 r.F 15 } := rfl
  obtain ⟨cf, acts, e14, hl⟩ := ran_all { r with F := bits .andNot .u8 r.F 15 } L own row hL (low8 r.F)
  have hl' := low_tmod hl
  have ho := getD_byte hL 0
  have hw := getD_byte hL 1
  have hold : ∀ x, f18 ((f9 r).R, x) = f18 (⟨0, bits .andNot .u8 r.F 15, 0, 0, 0, 0, 0, 0, 0, 0⟩, x) := fun x => by rw [e9]; exact hold_F _ x
  have hold2 : ∀ x, f18 (({ r with F := bits .andNot .u8 r.F 15 } : T_api_Regs), x) = f18 (⟨0, bits .andNot .u8 r.F 15, 0, 0, 0, 0, 0, 0, 0, 0⟩, x) := fun x => hold_F _ x
  generalize hop : L.getD 0 0 = op at *
  generalize htw : L.getD 1 0 = two at *
  have e17 := fun (x : Int) (b : Bool) (hx : 0 ≤ x ∧ x ≤ 255) => E17 (x, b) hx
  have t0 : Int.toNat 0 = 0 := rfl
  have t1 : Int.toNat 1 = 1 := rfl
  unfold F7 G7
  simp only [Gd.run, Gd.k, Gd.z, shown_ok, e9, e14, Option.bind_some, cond_true, t0, t1, hop, htw]
  by_cases h0 : L.length = 0
  · have d0 : decide ((L.length : Int) > 0) = false := decide_eq_false (by omega)
    have hop0 : op = 0 := by rw [← hop, List.getD_eq_getElem?_getD, List.getElem?_eq_none (by omega)]; rfl
    subst hop0
    have h203 : ((0 : Int) == 203) = false := rfl
    have hAA := plain_is 0 ho h203 (f18 (⟨0, bits .andNot .u8 r.F 15, 0, 0, 0, 0, 0, 0, 0, 0⟩, (t15 0).X))
    have ht : takes 0 two (bits .andNot .u8 r.F 15) = _ := hAA
    simp only [d0, cond_false, cond_true, E15 0 ho, Option.bind_some, kind_is 0 ho, h203, e17 0 _ ho, hold, hold2, ht, hl', Gd.ae, Gd.li, Gd.run]
    cases t17 (0, decide ((t15 0).Kind ≥ 43)) <;> cases f18 (⟨0, bits .andNot .u8 r.F 15, 0, 0, 0, 0, 0, 0, 0, 0⟩, (t15 0).X) <;> simp
  · have d0 : decide ((L.length : Int) > 0) = true := decide_eq_true (by omega)
    have d1 : decide ((0 : Int) ≤ 0 ∧ (0 : Int) < (L.length : Int)) = true := decide_eq_true ⟨Int.le_refl _, by omega⟩
    have d2 : decide (0 < L.length) = true := decide_eq_true (by omega)
    cases h203 : op == 203 with
    | false =>
      have hAA := plain_is op ho h203 (f18 (⟨0, bits .andNot .u8 r.F 15, 0, 0, 0, 0, 0, 0, 0, 0⟩, (t15 op).X))
      have ht : takes op two (bits .andNot .u8 r.F 15) = _ := Eq.trans (by unfold takes; rw [h203]; rfl) hAA
      simp only [d0, d1, d2, cond_false, cond_true, E15 op ho, Option.bind_some, kind_is op ho, h203, e17 op _ ho, hold, hold2, ht, hl', Gd.ae, Gd.li, Gd.run]
      cases t17 (op, decide ((t15 op).Kind ≥ 43)) <;> cases f18 (⟨0, bits .andNot .u8 r.F 15, 0, 0, 0, 0, 0, 0, 0, 0⟩, (t15 op).X) <;> simp
    | true =>
      have hBB := two_is two hw (f18 (⟨0, bits .andNot .u8 r.F 15, 0, 0, 0, 0, 0, 0, 0, 0⟩, (t16 two).X))
      have ht : takes op two (bits .andNot .u8 r.F 15) = _ := Eq.trans (by unfold takes; rw [h203]; rfl) hBB
      by_cases h1 : L.length ≤ 1
      · have d3 : decide ((L.length : Int) > 1) = false := decide_eq_false (by omega)
        have htw0 : two = 0 := by rw [← htw, List.getD_eq_getElem?_getD, List.getElem?_eq_none (by omega)]; rfl
        subst htw0
        simp only [d0, d1, d2, d3, cond_false, cond_true, E15 op ho, E16 0 hw, Option.bind_some, kind_is op ho, h203, e17 0 _ hw, hold, hold2, ht, hl', Gd.ae, Gd.li, Gd.run]
        cases t17 (0, decide ((t16 0).Kind ≥ 43)) <;> cases f18 (⟨0, bits .andNot .u8 r.F 15, 0, 0, 0, 0, 0, 0, 0, 0⟩, (t16 0).X) <;> simp
      · have d3 : decide ((L.length : Int) > 1) = true := decide_eq_true (by omega)
        have d4 : decide ((0 : Int) ≤ 1 ∧ (1 : Int) < (L.length : Int)) = true := decide_eq_true ⟨by decide, by omega⟩
        have d5 : decide (1 < L.length) = true := decide_eq_true (by omega)
        simp only [d0, d1, d2, d3, d4, d5, cond_false, cond_true, E15 op ho, E16 two hw, Option.bind_some, kind_is op ho, h203, e17 two _ hw, hold, hold2, ht, hl', Gd.ae, Gd.li, Gd.run]
        cases t17 (two, decide ((t16 two).Kind ≥ 43)) <;> cases f18 (⟨0, bits .andNot .u8 r.F 15, 0, 0, 0, 0, 0, 0, 0, 0⟩, (t16 two).X) <;> simp
end Go.Gen.Try
