import Derived.Test.YtlakggidkijcnaaLeH
set_option linter.all false
/- Slices that are built and appended to, told locally. -/
namespace Go.LE
open Go

section
variable {P : Program} {N : Nat} {o : Oper} {tm : Tm} {h : Heap}

/-! ### a slice literal -/
def zeroRow (zs : List Value) (n : Nat) : List Value := (List.range n).map fun i => zs.getD (i % zs.length) undefV

theorem zeroRow_wf {zs : List Value} {n : Nat} (hz : 0 < zs.length) (hw : ∀ x ∈ zs, wf1 h x = true) : ∀ x ∈ zeroRow zs n, wf1 h x = true := by
  intro x hx
  unfold zeroRow at hx
  obtain ⟨i, _, rfl⟩ := List.mem_map.1 hx
  have hlt : i % zs.length < zs.length := Nat.mod_lt _ hz
  rw [List.getD_eq_getElem?_getD, List.getElem?_eq_getElem hlt]
  exact hw _ (List.getElem_mem hlt)

def lbuildSlice (P : Program) (t : TypeId) (len : Nat) (parts : List (Nat × Value)) : Option (List Value × Nat × Nat) :=
  match P.underlying t with
  | some (.slice e) =>
    match szOf P e, zeroOf P e with
    | some (s + 1), some z =>
      bif Nat.ble (len * (s + 1)) 16777216 && (Nat.beq (lcells z).length (s + 1) && parts.all (fun p => isWf2 p.2)) then
        match lfill (fun i => some (i * (s + 1), s + 1)) (zeroRow (lcells z) (len * (s + 1))) parts with
        | some cs => some (cs, e, s + 1)
        | none => none
      else none
    | _, _ => none
  | _ => none

theorem lfill_length {place : Nat → Option (Nat × Nat)} : ∀ (parts : List (Nat × Value)) (cs r : List Value), lfill place cs parts = some r → r.length = cs.length
  | [], cs, r, hl => by cases hl; rfl
  | (i, v) :: rest, cs, r, hl => by
    unfold lfill at hl
    cases hp : place i with
    | none => rw [hp] at hl; cases hl
    | some os =>
      obtain ⟨off, size⟩ := os
      rw [hp] at hl
      simp only at hl
      cases hc : (Nat.beq (lcells v).length size && Nat.ble (off + (lcells v).length) cs.length) with
      | false => rw [hc] at hl; cases hl
      | true =>
        rw [hc] at hl
        rw [lfill_length rest _ r hl, setCells_length]

def sliceTo (i n : Nat) : Value := .slice (some ⟨i, 0, none⟩) n 0

theorem wf_sliceTo {h : Heap} {i n : Nat} (hb : isBorn h i = true) : wf h (sliceTo i n) = true := by
  show wf0 h (.slice (some ⟨i, 0, none⟩) n 0) = true
  simp [wf0, hb]

theorem tr_sliceTo {ρ : Rho} {i n : Nat} {l : Loc} (hl : ρ[i]? = some l) (hn : l.nil = false) : tr ρ (sliceTo i n) = .slice (some ⟨l.block, l.off, none⟩) n l.ecap := by
  simp [sliceTo, tr, tr2, tr1, tr0, hl, hn]

theorem op_buildSlice {t : TypeId} {len : Nat} {parts : Array (Nat × Operand)} {vs : List (Nat × Value)} {cs : List Value} {e s i : Nat} {h' : Heap} (ho : o.op = .buildSlice t len parts) (hx : levParts tm parts.toList = some vs)
    (hl : lbuildSlice P t len vs = some (cs, e, s)) (hn : newAt h i ⟨cs, true, some (e, s)⟩ = some h') : OpOK P N o tm h (sliceTo i len) h' :=
  OpOK.world fun base ds ρ a w r => by
    obtain ⟨e1, f1⟩ := levParts_ok r hx
    unfold lbuildSlice at hl
    cases hu : P.underlying t with
    | none => rw [hu] at hl; cases hl
    | some d =>
      rw [hu] at hl
      cases d <;> first | (cases hl; done) | skip
      rename_i e0
      simp only at hl
      cases hs : szOf P e0 with
      | none => rw [hs] at hl; cases hl
      | some s0 =>
        cases hz : zeroOf P e0 with
        | none => rw [hs, hz] at hl; cases s0 <;> cases hl
        | some z =>
          rw [hs, hz] at hl
          cases s0 with
          | zero => cases hl
          | succ s0 =>
            simp only at hl
            cases hc : (Nat.ble (len * (s0 + 1)) 16777216 && (Nat.beq (lcells z).length (s0 + 1) && vs.all (fun p => isWf2 p.2))) with
            | false => rw [hc] at hl; cases hl
            | true =>
              rw [hc] at hl
              simp only [cond_true] at hl
              simp only [Bool.and_eq_true] at hc
              obtain ⟨c1, c2, c3⟩ := hc
              have c1' := Nat.le_of_ble_eq_true c1
              have c2' := Nat.eq_of_beq_eq_true c2
              cases hf : lfill (fun i => some (i * (s0 + 1), s0 + 1)) (zeroRow (lcells z) (len * (s0 + 1))) vs with
              | none => rw [hf] at hl; cases hl
              | some cs' =>
                rw [hf] at hl
                cases hl
                obtain ⟨z1, z2⟩ := run_zeroValue' hz w
                have hw2 : ∀ p ∈ vs, wf2 h p.2 = true := fun p hp => wf2_of (List.all_eq_true.1 c3 p hp) (f1 p hp)
                have zw : ∀ x ∈ lcells z, wf1 h x = true := fun x hx => wf1_mono (fun i hi => by rw [born_nil] at hi; cases hi) x (wf1_lcells z2 x hx)
                have zc : z.cells = ⟨(lcells z).map (tr1 ρ)⟩ := by
                  have := cells_tr (ρ := ρ) z2
                  rwa [tr_closed z (wf_of_wf2 z2)] at this
                have zrw := zeroRow_wf (n := len * (s0 + 1)) (by omega) zw
                have hwf := fill_wf vs _ cs hf hw2 zrw
                have hlen := lfill_length vs _ cs hf
                have hlen2 : cs.length = len * (s0 + 1) := by rw [hlen]; simp [zeroRow]
                have key := run_fill (h := h) (ρ := ρ) vs _ cs hf hw2
                have zr : (⟨(zeroRow (lcells z) (len * (s0 + 1))).map (tr1 ρ)⟩ : Array Value) = (Array.range (len * (s0 + 1))).map (z.cells[· % z.cells.size]!) := by
                  apply Array.ext'
                  simp only [Array.toList_map, Array.toList_range, zeroRow, List.map_map]
                  apply List.map_congr_left
                  intro j hj
                  have hpos : 0 < (lcells z).length := by omega
                  have hlt : j % (lcells z).length < (lcells z).length := Nat.mod_lt _ hpos
                  simp only [Function.comp, zc, List.size_toArray, List.length_map, List.getD_eq_getElem?_getD, List.getElem?_eq_getElem hlt, Option.getD_some]
                  rw [getElem!_pos _ _ (by simpa using hlt)]
                  simp
                obtain ⟨ρ', m, hρ, hb⟩ := Moves.newAt (cs := ⟨cs.map (tr1 ρ)⟩) (e := e) (fr := (0, 0)) (esz := s0 + 1) (ecap := len) r.inv hn hwf
                  (fun j v hj => map_get j v hj) ⟨rfl, rfl, Nat.succ_pos _, rfl, rfl, by simpa using hlen2, by have : len ≤ len * (s0 + 1) := Nat.le_mul_of_pos_right len (Nat.succ_pos s0); simp only [maxLen]; omega⟩ (unfrozen_zero _)
                refine ⟨ρ', _, ?_, m, wf_sliceTo hb⟩
                rw [tr_sliceTo hρ rfl]
                have e2 : parts.map (fun (p : Nat × Operand) => (p.1, a.eval p.2)) = ⟨vs.map fun p => (p.1, tr ρ p.2)⟩ := by
                  apply Array.ext'
                  rw [Array.toList_map]
                  exact e1
                have hbig : ¬ (len * (s0 + 1) > 2 ^ 24) := by omega
                simp only [execOp, ho, Instr.buildSlice, Sem.run_bind, run_underlying hu, Result.andThen_ok, run_sizeOf' hs, if_neg hbig]
                simp only [Sem.run_bind, Sem.run_pure, Sem.run_ite, Result.andThen_ok, z1]
                rw [e2]
                by_cases h0 : len * (s0 + 1) = 0
                · have hz1 : (Array.range (len * (s0 + 1))).map ((#[] : Array Value)[· % (#[] : Array Value).size]!) = ⟨(zeroRow (lcells z) (len * (s0 + 1))).map (tr1 ρ)⟩ := by
                    rw [h0]; simp [zeroRow]
                  rw [← hz1] at key
                  rw [if_pos h0]
                  simp only [key, newRow, Sem.run_bind, run_newObj, Result.andThen_ok, Sem.run_pure]
                  rfl
                · rw [zr] at key
                  rw [if_neg h0]
                  simp only [key, newRow, Sem.run_bind, run_newObj, Result.andThen_ok, Sem.run_pure]
                  rfl

end
end Go.LE
