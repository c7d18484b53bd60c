import Derived.Test.YtlakggidkijcnaaLeL
set_option linter.all false
/- A call that turns nothing; regions that draw their order: the parts. -/
namespace Go.LE
open Go

/-! ### a call that leaves the memory as it is -/
def lcallQ (P : Program) (tm : Tm) (h : Heap) (c : Call) (σ : List (Nat × Bool)) (v : Value) : Option (Value × List Prop) :=
  match calleeOf tm c with
  | some (f, args) =>
    match mapO (inv (σ.map (·.1))) args, smallOf h (σ.map (·.1)) σ with
    | some as, some (hs, obs1) =>
      bif callable P f && (nodupB (σ.map (·.1))) then some (rn (σ.map (·.1)) v, LCalls P f as hs v hs :: obs1) else none
    | _, _ => none
  | none => none

theorem places_same (σ : List Nat) (n : Nat) : places σ n σ.length = σ := by simp [places]

theorem setMany_id : ∀ (σ : List Nat) (H B : Heap), (∀ (i j : Nat) (s : Sl), σ[i]? = some j → B[i]? = some s → H[j]? = some s) → setMany H σ B = H
  | [], H, B, _ => by simp [setMany]
  | j :: σ, H, [], _ => by simp [setMany]
  | j :: σ, H, s :: B, h => by
    simp only [setMany]
    have h0 := h 0 j s rfl rfl
    have e : H.set j s = H := by
      apply List.ext_getElem?
      intro k
      by_cases hk : k = j
      · subst hk
        rw [List.getElem?_set_self (List.getElem?_eq_some_iff.1 h0).1, h0]
      · rw [List.getElem?_set_ne (Ne.symm hk)]
    rw [e]
    exact setMany_id σ H B fun i j s h1 h2 => h (i + 1) j s (by simpa using h1) (by simpa using h2)

set_option maxHeartbeats 1000000 in
theorem op_callQ {P : Program} {N : Nat} {o : Oper} {tm : Tm} {h : Heap} {c : Call} {σ : List (Nat × Bool)} {v u : Value} {obs : List Prop} (ho : o.op = .call c) (hl : lcallQ P tm h c σ v = some (u, obs)) (hob : All obs) :
    OpOK P N o tm h u h := by
  intro base ds ρ a w K Q r k
  unfold lcallQ at hl
  cases hc : calleeOf tm c with
  | none => rw [hc] at hl; cases hl
  | some fa =>
    obtain ⟨f, args⟩ := fa
    rw [hc] at hl
    simp only at hl
    cases h1 : mapO (inv (σ.map (·.1))) args with
    | none => rw [h1] at hl; cases hl
    | some as =>
      cases h2 : smallOf h (σ.map (·.1)) σ with
      | none => rw [h1, h2] at hl; cases hl
      | some q =>
        obtain ⟨hs, obs1⟩ := q
        rw [h1, h2] at hl
        simp only at hl
        cases h4 : (callable P f && (nodupB (σ.map (·.1)))) with
        | false => rw [h4] at hl; cases hl
        | true =>
          rw [h4] at hl
          cases hl
          simp only [Bool.and_eq_true] at h4
          obtain ⟨c1, c2⟩ := h4
          obtain ⟨o1, o2⟩ := hob
          obtain ⟨part, hborn⟩ := Part.of c2 h2 o2 r.inv.wfHeap
          unfold calleeOf at hc
          cases hcal : c.callee with
          | invoke x y => rw [hcal] at hc; cases hc
          | builtin b => rw [hcal] at hc; cases hc
          | value x =>
            rw [hcal] at hc
            simp only at hc
            cases hx : lev tm x with
            | none => rw [hx] at hc; cases hc
            | some fv =>
              rw [hx] at hc
              cases fv <;> first | (cases hc; done) | skip
              rename_i fn first captured
              cases fn <;> first | (cases hc; done) | skip
              rename_i g
              cases ha : levAll tm c.args.toList with
              | none => rw [ha] at hc; cases hc
              | some vs =>
                rw [ha] at hc
                cases hc
                obtain ⟨e1, f1⟩ := r.eval hx
                obtain ⟨e2, f2⟩ := levAll_ok r ha
                have hfw : (first.toList.all (wf0 h) = true) ∧ captured.toList.all (wf0 h) = true := by
                  have : wf1 h (.func (.func f) first captured) = true := f1
                  simp only [wf1, Bool.and_eq_true] at this
                  exact this.2
                have up : ∀ {l : List Value}, l.all (wf0 h) = true → (∀ v ∈ l, wf h v = true) ∧ l.map (tr0 ρ) = l.map (tr ρ) := fun {l} hl =>
                  ⟨fun v hv => wf_of_wf1 (wf1_of_wf0 (List.all_eq_true.1 hl v hv)), List.map_congr_left fun v hv => (tr_of_wf0 (List.all_eq_true.1 hl v hv)).symm⟩
                have allwf : ∀ v ∈ first.toList ++ (vs ++ captured.toList), wf h v = true := fun v hv => by
                  rcases List.mem_append.1 hv with h | h
                  · exact (up hfw.1).1 v h
                  · rcases List.mem_append.1 h with h | h
                    · exact f2 v h
                    · exact (up hfw.2).1 v h
                obtain ⟨m1, m2⟩ := mapO_ok (fun v u => inv_ok (H := h) hborn) h1 (List.all_eq_true.2 allwf)
                have hargs : (⟨as.map (tr (pick ρ (σ.map (·.1))))⟩ : Array Value) = (⟨first.toList.map (tr0 ρ)⟩ ++ c.args.map a.eval) ++ ⟨captured.toList.map (tr0 ρ)⟩ := by
                  apply Array.ext'
                  have e3 : as.map (tr (pick ρ (σ.map (·.1)))) = (as.map (rn (σ.map (·.1)))).map (tr ρ) := by
                    rw [List.map_map]
                    exact List.map_congr_left fun v hv => ((tie (part.ties r.inv) v (List.all_eq_true.1 m2 v hv)).1).symm
                  simp only [Array.toList_append, Array.toList_map, e2, (up hfw.1).2, (up hfw.2).2, e3, m1, List.map_append, List.append_assoc]
                have hrun : (execOp a.eval o).run P w = .ok (.enter f ⟨as.map (tr (pick ρ (σ.map (·.1))))⟩) w := by
                  have e4 : tr ρ (.func (.func f) first captured) = .func (.func f) ⟨first.toList.map (tr0 ρ)⟩ ⟨captured.toList.map (tr0 ρ)⟩ := rfl
                  simp only [execOp, ho, resolve, hcal, e1, e4, Deferred.ofValue, Sem.run_bind, Sem.run_pure, Result.andThen_ok, invoke, run_callFunc c1, hargs]
                simp only [Oper.wp, hrun, Oper.upon]
                have hcl := o1 base (pick ρ (σ.map (·.1))) w (part.inv r.inv) (fun v hv => List.all_eq_true.1 m2 v hv)
                refine Calls.mono hcl ?_
                rintro e w' ⟨ρs', m, hv, rfl⟩
                -- what is left is what was there
                have hn := part.2.1
                obtain ⟨B, hB⟩ : ∃ B : Heap, B = (σ.map (·.1)).map fun j => h.getD j .unborn := ⟨_, rfl⟩
                have getB : ∀ (i j : Nat) (s : Sl), (σ.map (·.1))[i]? = some j → B[i]? = some s → h.getD j .unborn = s := fun i j s h1 h2 => by
                  rw [hB, List.getElem?_map, h1] at h2
                  simpa using h2
                have lB : B.length = hs.length := by rw [hB, List.length_map, hn]
                have σh : ∀ {i j : Nat}, (σ.map (·.1))[i]? = some j → j < h.length := fun {i j} hi => by
                  have hil : i < hs.length := by rw [hn]; exact (List.getElem?_eq_some_iff.1 hi).1
                  obtain ⟨bs, b, j', q1, q2, q3, _⟩ := part.2.2 i hs[i] (List.getElem?_eq_getElem hil)
                  rw [hi] at q2
                  cases q2
                  exact (List.getElem?_eq_some_iff.1 q3).1
                obtain ⟨ρ', mm, ties⟩ := Moves.frame (B := B) part r.inv m lB (fun i s t hs1 ht => by
                  rw [hn, places_same]
                  obtain ⟨bs, b, j, q1, q2, q3, q4, q5, q6, _⟩ := part.2.2 i s hs1
                  have := getB i j t q2 ht
                  rw [List.getD_eq_getElem?_getD, q3] at this
                  simp only [Option.getD_some] at this
                  subst this
                  subst q1
                  exact ⟨q4, q5, q6⟩)
                have tk : B.take (σ.map (·.1)).length = B := List.take_of_length_le (by rw [lB, hn]; exact Nat.le_refl _)
                have dp : B.drop (σ.map (·.1)).length = [] := List.drop_of_length_le (by rw [lB, hn]; exact Nat.le_refl _)
                have idm : setMany h (σ.map (·.1)) (B.take (σ.map (·.1)).length) ++ B.drop (σ.map (·.1)).length = h := by
                  rw [tk, dp, List.append_nil]
                  exact setMany_id _ _ _ fun i j s h1 h2 => by
                    have := getB i j s h1 h2
                    rw [List.getD_eq_getElem?_getD, List.getElem?_eq_getElem (σh h1)] at this
                    rw [List.getElem?_eq_getElem (σh h1)]
                    simpa using this
                rw [idm] at mm ties
                rw [hn, places_same] at ties
                obtain ⟨t1, t2⟩ := tie ties v hv
                have := k ρ' w' mm t2
                rw [t1] at this
                exact this

end Go.LE
