import Derived.Test.YtlakggidkijcnaaTimesP
import Derived.Test.YtlakggidkijcnaaCallsP
set_option linter.all false
set_option linter.all false
/- CpuTimes: the cycles of one instruction. -/
namespace Go.Gen.Try
open Go Go.LE

theorem getD_byte {L : List Int} (hL : ∀ x ∈ L, 0 ≤ x ∧ x ≤ 255) (i : Nat) : 0 ≤ L.getD i 0 ∧ L.getD i 0 ≤ 255 := by
  rw [List.getD_eq_getElem?_getD]
  cases h : L[i]? with
  | none => exact ⟨by decide, by decide⟩
  | some x => exact hL x (List.mem_of_getElem? h)

theorem ran_round (L : List Int) (own : Bool) (row : Option (Nat × Nat)) (hL : ∀ x ∈ L, 0 ≤ x ∧ x ≤ 255) (k n : Int) (c : T_api_Cpu) (acts : List T_api_Act) (a : T_api_Act) (tk : Int)
    (hk : 0 ≤ k ∧ k ≤ 100) (hn : 0 ≤ n ∧ n < 8) (ha : acts.length ≤ 100) (h10 : F10 (c, 0) = some (c, a, tk)) :
    ∃ v k' acts', (0 ≤ v ∧ v ≤ 255) ∧ (0 ≤ k' ∧ k' ≤ k + 1) ∧ acts'.length ≤ acts.length + 1 ∧ (a.Kind = 1 → v = L.getD k.toNat 0 ∧ k' = k + 1) ∧
      ∀ c2 b, F12 (c, v, 0) = some c2 → F11 c2 = some b → (LG14_l1 (L, own, row) (k, n, c, acts)).run = some (bif b then .inl (k', n + 1, c2, acts') else .inr (n + 1, c2, acts')) := by
  have n8 : decide (n < 8) = true := decide_eq_true hn.2
  have wn : IntKind.wrap .i64 (n + 1) = n + 1 := i64_id _ (by omega)
  have wk : IntKind.wrap .i64 (k + 1) = k + 1 := i64_id _ (by omega)
  have ap : decide ((acts.length + 1) * 16 ≤ 140737488355328) = true := decide_eq_true (by omega)
  by_cases rd : a.Kind = 1 ∨ a.Kind = 2
  · have hz : (a.Kind != 0) = true := by rcases rd with h | h <;> (rw [h]; rfl)
    by_cases hlen : k < (L.length : Int)
    · refine ⟨L.getD k.toNat 0, k + 1, acts ++ [{ a with Data := L.getD k.toNat 0 }], getD_byte hL _, ⟨by omega, by omega⟩, by simp, fun _ => ⟨rfl, rfl⟩, fun c2 b e12 e11 => ?_⟩
      have l1 : decide (k < (L.length : Int)) = true := decide_eq_true hlen
      have l2 : decide (0 ≤ k ∧ k < (L.length : Int)) = true := decide_eq_true ⟨hk.1, hlen⟩
      have l3 : decide (k.toNat < L.length) = true := decide_eq_true (by omega)
      unfold LG14_l1
      rcases rd with h | h
      · have h1 : (a.Kind == 1) = true := by rw [h]; rfl
        simp only [Gd.run, Gd.k, Gd.z, Gd.ae, Gd.li, Gd.ap, n8, h10, h1, l1, l2, l3, hz, ap, e12, e11, wn, wk, cond_true, cond_false, Option.bind_some]
        cases b <;> rfl
      · have h1 : (a.Kind == 1) = false := by rw [h]; rfl
        have h2 : (a.Kind == 2) = true := by rw [h]; rfl
        simp only [Gd.run, Gd.k, Gd.z, Gd.ae, Gd.li, Gd.ap, n8, h10, h1, h2, l1, l2, l3, hz, ap, e12, e11, wn, wk, cond_true, cond_false, Option.bind_some]
        cases b <;> rfl
    · refine ⟨0, k + 1, acts ++ [{ a with Data := 0 }], ⟨by decide, by decide⟩, ⟨by omega, by omega⟩, by simp, fun _ => ⟨?_, rfl⟩, fun c2 b e12 e11 => ?_⟩
      · rw [List.getD_eq_getElem?_getD, List.getElem?_eq_none (by omega)]; rfl
      have l1 : decide (k < (L.length : Int)) = false := decide_eq_false hlen
      unfold LG14_l1
      rcases rd with h | h
      · have h1 : (a.Kind == 1) = true := by rw [h]; rfl
        simp only [Gd.run, Gd.k, Gd.z, Gd.ae, Gd.li, Gd.ap, n8, h10, h1, l1, hz, ap, e12, e11, wn, wk, cond_true, cond_false, Option.bind_some]
        cases b <;> rfl
      · have h1 : (a.Kind == 1) = false := by rw [h]; rfl
        have h2 : (a.Kind == 2) = true := by rw [h]; rfl
        simp only [Gd.run, Gd.k, Gd.z, Gd.ae, Gd.li, Gd.ap, n8, h10, h1, h2, l1, hz, ap, e12, e11, wn, wk, cond_true, cond_false, Option.bind_some]
        cases b <;> rfl
  · have h1 : (a.Kind == 1) = false := beq_false_of_ne (fun h => rd (.inl h))
    have h2 : (a.Kind == 2) = false := beq_false_of_ne (fun h => rd (.inr h))
    cases hz : a.Kind != 0 with
    | true =>
      refine ⟨0, k, acts ++ [a], ⟨by decide, by decide⟩, ⟨by omega, by omega⟩, by simp, fun h => absurd (Or.inl h) rd, fun c2 b e12 e11 => ?_⟩
      unfold LG14_l1
      simp only [Gd.run, Gd.k, Gd.z, Gd.ae, Gd.li, Gd.ap, n8, h10, h1, h2, hz, ap, e12, e11, wn, wk, cond_true, cond_false, Option.bind_some]
      cases b <;> rfl
    | false =>
      refine ⟨0, k, acts, ⟨by decide, by decide⟩, ⟨by omega, by omega⟩, by simp, fun h => absurd (Or.inl h) rd, fun c2 b e12 e11 => ?_⟩
      unfold LG14_l1
      simp only [Gd.run, Gd.k, Gd.z, Gd.ae, Gd.li, Gd.ap, n8, h10, h1, h2, hz, ap, e12, e11, wn, wk, cond_true, cond_false, Option.bind_some]
      cases b <;> rfl

/-- A plan's cycle that is due. -/
theorem due {c : T_api_Cpu} {op : Int} {cb : Bool} {s F : Int} (g : Going c op cb s F) (ho : 0 ≤ op ∧ op ≤ 255) (hc : cb = true ∧ 2 ≤ s ∨ cb = false ∧ op ≠ 203 ∧ 1 ≤ s) (hs : s ≤ 50) :
    ∃ m, F24 ⟨c⟩ = some (m, decide (s - (bif cb then 2 else 1) < (plen op cb (tkn F op cb) : Int))) := by
  rcases hc with ⟨rfl, h2⟩ | ⟨rfl, hp, h1⟩
  · exact cycle_cb g ho ⟨h2, by omega⟩
  · exact cycle_plain g ho hp ⟨h1, by omega⟩
theorem no_fetch {c : T_api_Cpu} {op : Int} {cb : Bool} {s F : Int} (g : Going c op cb s F) (hc : cb = true ∧ 2 ≤ s ∨ cb = false ∧ op ≠ 203 ∧ 1 ≤ s) : f23 ⟨c⟩ = false := by
  obtain ⟨g1, g2, g3, g4, g5, g6, g7⟩ := g
  have e : f23 ⟨c⟩ = bif c.Step == 1 then (bif f40 ⟨c⟩ then true else c.Cb) else false := rfl
  have e40 : f40 ⟨c⟩ = bif c.Op == 203 then !c.Cb else false := rfl
  rw [e, e40, g4, g5, g6]
  rcases hc with ⟨rfl, h2⟩ | ⟨rfl, hp, h1⟩
  · rw [beq_false_of_ne (show s ≠ 1 by omega)]; rfl
  · rw [beq_false_of_ne hp]; cases s == 1 <;> rfl

theorem ran_tail (L : List Int) (own : Bool) (row : Option (Nat × Nat)) (hL : ∀ x ∈ L, 0 ≤ x ∧ x ≤ 255) {op : Int} {cb : Bool} {F : Int} (ho : 0 ≤ op ∧ op ≤ 255) (hF : low F) :
    ∀ (rem m : Nat) (k n s : Int) (c : T_api_Cpu) (acts : List T_api_Act), Going c op cb s F → (cb = true ∧ 2 ≤ s ∨ cb = false ∧ op ≠ 203 ∧ 1 ≤ s) →
      (plen op cb (tkn F op cb) : Int) - (s - (bif cb then 2 else 1)) = rem + 1 → s ≤ n + 5 → 0 ≤ k ∧ k ≤ n → 0 ≤ n → n + rem + 1 ≤ 8 → (acts.length : Int) ≤ n → rem < m →
      ∃ cf acts', LF14_l1 (L, own, row) m (k, n, c, acts) = some (n + rem + 1, cf, acts') ∧ low cf.R.F
  | rem, 0, _, _, _, _, _, _, _, _, _, _, _, _, _, h => by omega
  | rem, m + 1, k, n, s, c, acts, g, hc, hr, hs, hk, hn, hn8, ha, hm => by
    obtain ⟨mi, h24⟩ := due g ho hc (by omega)
    rw [decide_eq_true (by omega)] at h24
    have s1 : 1 ≤ s := by rcases hc with h | h <;> omega
    obtain ⟨a, tk, h10, _⟩ := want_due g ho (by omega) h24
    obtain ⟨v, k', acts', hv, hk', ha', _, hrun⟩ := ran_round L own row hL k n c acts a tk (by omega) (by omega) (by omega) h10
    obtain ⟨c', g', h12⟩ := done_due (v := v) g ho (by omega) h24 (no_fetch g hc)
    have hc' : cb = true ∧ 2 ≤ s + 1 ∨ cb = false ∧ op ≠ 203 ∧ 1 ≤ s + 1 := by
      rcases hc with ⟨h, h'⟩ | ⟨h, h', h''⟩
      · exact .inl ⟨h, by omega⟩
      · exact .inr ⟨h, h', by omega⟩
    obtain ⟨mj, h24'⟩ := due g' ho hc' (by omega)
    have h12' := h12 _ _ h24'
    have hop' : (0 : Int) ≤ c'.Op ∧ c'.Op ≤ 255 := by rw [g'.2.2.2.1]; exact ho
    cases rem with
    | zero =>
      rw [decide_eq_false (by omega)] at h12'
      have h11 := busy_step0 (c := (t31 (⟨c'⟩, 0)).Cpu) (S31 (⟨c'⟩, 0) hop')
      refine ⟨(t31 (⟨c'⟩, 0)).Cpu, acts', ?_, ?_⟩
      · rw [show n + ((0 : Nat) : Int) + 1 = n + 1 by omega]
        exact rounds_out (hrun _ _ h12' h11) m
      exact L31 (⟨c'⟩, 0) hop' (by show low c'.R.F; rw [g'.2.2.2.2.2.2]; exact hF)
    | succ rem =>
      rw [decide_eq_true (by omega)] at h12' h24'
      have h11 := busy_due' g' (by omega) h24'
      obtain ⟨cf, actsf, e, hl⟩ := ran_tail L own row hL ho hF rem m k' (n + 1) (s + 1) c' acts' g' hc' (by omega) (by omega) (by omega) (by omega) (by omega) (by omega) (by omega)
      refine ⟨cf, actsf, (rounds_go (hrun _ _ h12' h11) m).trans (e.trans ?_), hl⟩
      congr 2
      omega

/-- What an instruction takes. -/
noncomputable def takes (op two F : Int) : Int := bif op == 203 then 2 + (plen two true (tkn F two true) : Int) else 1 + (plen op false (tkn F op false) : Int)

theorem len_all (tk : Bool) : (List.range 256).all (fun i => decide (plen (i : Int) true tk ≤ 6) && decide (plen (i : Int) false tk ≤ 6)) = true := by
  cases tk
  · exact Eq.trans (by kernel_rfl) rfl
  · exact Eq.trans (by kernel_rfl) rfl
theorem len_le (op : Int) (h : 0 ≤ op ∧ op ≤ 255) (cb tk : Bool) : plen op cb tk ≤ 6 := by
  obtain ⟨i, rfl, hi⟩ := byte_nat h
  have := range_all (len_all tk) hi
  simp only [Bool.and_eq_true, decide_eq_true_eq] at this
  cases cb
  · exact this.2
  · exact this.1

theorem ran_all (R : T_api_Regs) (L : List Int) (own : Bool) (row : Option (Nat × Nat)) (hL : ∀ x ∈ L, 0 ≤ x ∧ x ≤ 255) (hF : low R.F) :
    ∃ cf acts, F14 (C0 R, own, row, L) = some (cf, acts, takes (L.getD 0 0) (L.getD 1 0) R.F) ∧ low cf.R.F := by
  suffices h : ∃ cf acts, LF14_l1 (L, own, row) 18446744073709551616 (0, 0, C0 R, []) = some (takes (L.getD 0 0) (L.getD 1 0) R.F, cf, acts) ∧ low cf.R.F by
    obtain ⟨cf, acts, e, hl⟩ := h
    refine ⟨cf, acts, ?_, hl⟩
    unfold F14 G14
    simp only [Gd.run, cond_true]
    refine (congrArg (fun o => Option.bind o _) e).trans ?_
    rfl
  obtain ⟨v, k', acts, hv, hk, ha, hf, hrun⟩ := ran_round L own row hL 0 0 (C0 R) [] ⟨1, R.PC, 0⟩ (-1) (by omega) (by omega) (by simp) (want0 R 0)
  obtain ⟨hv0, rfl⟩ := hf rfl
  have hv0 : v = L.getD 0 0 := hv0
  rw [← hv0]
  have h12 := done0 R v 0 hv
  have g : Going (C1 R v) v false 1 R.F := ⟨rfl, rfl, rfl, rfl, rfl, rfl, rfl⟩
  have b0 : bits .and .u8 (0 : Int) 31 = 0 := rfl
  rw [b0] at h12
  have e24 := E24 ⟨C1 R v⟩ hv
  show ∃ cf acts, rounds (fun x => (LG14_l1 (L, own, row) x).run) (18446744073709551615 + 1) (0, 0, C0 R, []) = _ ∧ _
  unfold takes
  by_cases hp : v = 203
  · subst hp
    have h24 := cycle_two g
    rw [e24] at h24
    have h24' : (t24 ⟨C1 R 203⟩).2 = true := by rw [Option.some.inj h24]
    rw [h24'] at h12
    have h11 := busy_due' g (by omega) (cycle_two g)
    obtain ⟨a, tk, h10, hka⟩ := want_due g hv (by omega) (cycle_two g)
    have h23 : f23 ⟨C1 R 203⟩ = true := rfl
    obtain ⟨w, k2, acts2, hw, hk2, ha2, hf2, hrun2⟩ := ran_round L own row hL (0 + 1) (0 + 1) (C1 R 203) acts a tk (by omega) (by omega) (by simp at ha; omega) h10
    obtain ⟨hw0, rfl⟩ := hf2 (hka h23)
    have hw0 : w = L.getD 1 0 := hw0
    rw [← hw0]
    obtain ⟨c', g', h12'⟩ := done_two (v := w) g hw
    obtain ⟨mj, h24c⟩ := due g' hw (.inl ⟨rfl, by omega⟩) (by omega)
    have hop' : (0 : Int) ≤ c'.Op ∧ c'.Op ≤ 255 := by rw [g'.2.2.2.1]; exact hw
    have h12c := h12' _ _ h24c
    have hlen := len_le w hw true (tkn R.F w true)
    simp only [cond_true, beq_self_eq_true] at *
    rw [rounds_go (hrun _ _ h12 h11) 18446744073709551615]
    show ∃ cf acts, rounds (fun x => (LG14_l1 (L, own, row) x).run) (18446744073709551614 + 1) _ = _ ∧ _
    by_cases hz : plen w true (tkn R.F w true) = 0
    · rw [decide_eq_false (by omega)] at h12c
      have h11' := busy_step0 (c := (t31 (⟨c'⟩, 0)).Cpu) (S31 (⟨c'⟩, 0) hop')
      refine ⟨(t31 (⟨c'⟩, 0)).Cpu, acts2, ?_, ?_⟩
      · rw [hz]; exact rounds_out (hrun2 _ _ h12c h11') _
      · exact L31 (⟨c'⟩, 0) hop' (by show low c'.R.F; rw [g'.2.2.2.2.2.2]; exact hF)
    · rw [decide_eq_true (by omega)] at h12c h24c
      have h11' := busy_due' g' (by omega) h24c
      rw [rounds_go (hrun2 _ _ h12c h11') 18446744073709551614]
      obtain ⟨cf, actsf, e, hl⟩ := ran_tail L own row hL hw hF (plen w true (tkn R.F w true) - 1) 18446744073709551614 (0 + 1 + 1) (0 + 1 + 1) 2 c' acts2 g' (.inl ⟨rfl, by omega⟩) (by simp only [cond_true]; omega) (by omega) (by omega) (by omega) (by omega) (by simp at ha; omega) (by omega)
      refine ⟨cf, actsf, e.trans ?_, hl⟩
      congr 2
      omega
  · have hb : (v == 203) = false := beq_false_of_ne hp
    rw [hb]
    obtain ⟨mj, h24c⟩ := due g hv (.inr ⟨rfl, hp, by omega⟩) (by omega)
    have h24' : (t24 ⟨C1 R v⟩).2 = decide ((1 : Int) - (bif false then 2 else 1) < (plen v false (tkn R.F v false) : Int)) := by
      rw [e24] at h24c
      rw [Option.some.inj h24c]
    rw [h24'] at h12
    have hlen := len_le v hv false (tkn R.F v false)
    simp only [cond_false] at *
    by_cases hz : plen v false (tkn R.F v false) = 0
    · rw [decide_eq_false (by omega)] at h12
      have h11' := busy_step0 (c := (t31 (⟨C1 R v⟩, 0)).Cpu) (S31 (⟨C1 R v⟩, 0) hv)
      refine ⟨(t31 (⟨C1 R v⟩, 0)).Cpu, acts, ?_, ?_⟩
      · rw [hz]; exact rounds_out (hrun _ _ h12 h11') _
      · exact L31 (⟨C1 R v⟩, 0) hv hF
    · rw [decide_eq_true (by omega)] at h12 h24c
      have h11' := busy_due' g (by omega) h24c
      rw [rounds_go (hrun _ _ h12 h11') 18446744073709551615]
      obtain ⟨cf, actsf, e, hl⟩ := ran_tail L own row hL hv hF (plen v false (tkn R.F v false) - 1) 18446744073709551615 (0 + 1) (0 + 1) 1 (C1 R v) acts g (.inr ⟨rfl, hp, by omega⟩) (by simp only [cond_false]; omega) (by omega) (by omega) (by omega) (by omega) (by simp at ha; omega) (by omega)
      refine ⟨cf, actsf, e.trans ?_, hl⟩
      congr 2
      omega
end Go.Gen.Try
