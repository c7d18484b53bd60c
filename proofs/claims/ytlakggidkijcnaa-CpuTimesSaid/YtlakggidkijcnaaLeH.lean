import Derived.Test.YtlakggidkijcnaaLeG
import Derived.Maps.AppendAt
set_option linter.all false
/- One operation, told locally. -/
namespace Go.LE
open Go

section
variable {P : Program} {N : Nat} {o : Oper} {tm : Tm} {h : Heap}

theorem OpOK.value {v : Value} (hr : ∀ base ds ρ a w, Rel base N ds h ρ tm a w → (execOp a.eval o).run P w = .ok (.value (tr ρ v)) w ∧ wf h v = true) : OpOK P N o tm h v h := by
  intro base ds ρ a w K Q r k
  obtain ⟨h1, h2⟩ := hr base ds ρ a w r
  simp only [Oper.wp, h1, Oper.upon]
  exact k ρ w (Moves.refl r.inv) h2

theorem OpOK.world {v : Value} {h' : Heap} (hr : ∀ base ds ρ a w, Rel base N ds h ρ tm a w → ∃ ρ' w', (execOp a.eval o).run P w = .ok (.value (tr ρ' v)) w' ∧ Moves base h ρ w h' ρ' w' ∧ wf h' v = true) : OpOK P N o tm h v h' := by
  intro base ds ρ a w K Q r k
  obtain ⟨ρ', w', h1, h2, h3⟩ := hr base ds ρ a w r
  simp only [Oper.wp, h1, Oper.upon]
  exact k ρ' w' h2 h3

theorem OpOK.skip {h' : Heap} (hr : ∀ base ds ρ a w, Rel base N ds h ρ tm a w → ∃ ρ' w', (execOp a.eval o).run P w = .ok .skip w' ∧ Moves base h ρ w h' ρ' w') : OpOK P N o tm h undefV h' := by
  intro base ds ρ a w K Q r k
  obtain ⟨ρ', w', h1, h2⟩ := hr base ds ρ a w r
  simp only [Oper.wp, h1, Oper.upon]
  exact k ρ' w' h2 rfl

/-- A value told otherwise. -/
theorem OpOK.as {v v' : Value} {h' : Heap} (ho : OpOK P N o tm h v h') (e : v = v') : OpOK P N o tm h v' h' := e ▸ ho

theorem op_move {x : Operand} {v : Value} (ho : o.op = .move x ∨ o.op = .assign x) (hx : lev tm x = some v) : OpOK P N o tm h v h :=
  OpOK.value fun base ds ρ a w r => by
    obtain ⟨e1, e2⟩ := r.eval hx
    rcases ho with ho | ho <;> exact ⟨by simp only [execOp, ho, e1, Sem.run_pure], e2⟩

theorem op_pick {c x y : Operand} {b : Bool} {v : Value} (ho : o.op = .pick c x y) (hc : lev tm c = some (.bool b)) (hx : lev tm (if b then x else y) = some v) : OpOK P N o tm h v h :=
  OpOK.value fun base ds ρ a w r => by
    obtain ⟨c1, _⟩ := r.eval hc
    obtain ⟨e1, e2⟩ := r.eval hx
    refine ⟨?_, e2⟩
    simp only [execOp, ho, c1, tr_bool, asBool, Sem.run_bind, Sem.run_pure, Result.andThen_ok]
    cases b <;> simp_all

theorem op_unOp {op : UnOp} {t : TypeId} {x : Operand} {u v : Value} (ho : o.op = .unOp op t x) (hx : lev tm x = some u) (hl : lun op u = some v) : OpOK P N o tm h v h :=
  OpOK.value fun base ds ρ a w r => by
    obtain ⟨e1, _⟩ := r.eval hx
    obtain ⟨h1, h2⟩ := run_lun (P := P) (h := h) (ρ := ρ) hl w
    exact ⟨by simp only [execOp, ho, e1, Sem.run_bind, h1, Result.andThen_ok, Sem.run_pure], h2⟩

theorem op_binOp {op : BinOp} {t t2 : TypeId} {x y : Operand} {u1 u2 v : Value} {sd : Bool} {obs : List Prop} (ho : o.op = .binOp op t x y t2) (hx : lev tm x = some u1) (hy : lev tm y = some u2)
    (hl : lbin P h sd op t u1 u2 = some (v, obs)) (hob : All obs) : OpOK P N o tm h v h :=
  OpOK.value fun base ds ρ a w r => by
    obtain ⟨e1, f1⟩ := r.eval hx
    obtain ⟨e2, f2⟩ := r.eval hy
    obtain ⟨h1, h2⟩ := run_lbin (P := P) r.inv x y hl hob f1 f2
    refine ⟨?_, h2⟩
    simp only [execOp, ho, e1, e2]
    rw [Sem.run_bind, h1]
    rfl

theorem op_convert {s d : TypeId} {x : Operand} {u v : Value} (ho : o.op = .convert s d x) (hx : lev tm x = some u) (hl : lconv P s d u = some v) : OpOK P N o tm h v h :=
  OpOK.value fun base ds ρ a w r => by
    obtain ⟨e1, _⟩ := r.eval hx
    obtain ⟨h1, h2⟩ := run_lconv (P := P) (h := h) (ρ := ρ) hl w
    exact ⟨by simp only [execOp, ho, e1, Sem.run_bind, h1, Result.andThen_ok, Sem.run_pure], h2⟩

theorem op_field {t : TypeId} {x : Operand} {f : Nat} {u v : Value} (ho : o.op = .field t x f) (hx : lev tm x = some u) (hl : lfield P t u f = some v) : OpOK P N o tm h v h :=
  OpOK.value fun base ds ρ a w r => by
    obtain ⟨e1, f1⟩ := r.eval hx
    obtain ⟨h1, h2⟩ := run_lfield (P := P) (h := h) (ρ := ρ) hl f1 w
    exact ⟨by simp only [execOp, ho, e1, Sem.run_bind, h1, Result.andThen_ok, Sem.run_pure], h2⟩

theorem op_extract {x : Operand} {i : Nat} {u v : Value} (ho : o.op = .extract x i) (hx : lev tm x = some u) (hl : lextract u i = some v) : OpOK P N o tm h v h :=
  OpOK.value fun base ds ρ a w r => by
    obtain ⟨e1, f1⟩ := r.eval hx
    obtain ⟨h1, h2⟩ := run_lextract (P := P) (h := h) (ρ := ρ) hl f1 w
    exact ⟨by simp only [execOp, ho, e1, Sem.run_bind, h1, Result.andThen_ok, Sem.run_pure], h2⟩

theorem op_fieldAddr {t : TypeId} {x : Operand} {f : Nat} {u v : Value} (ho : o.op = .fieldAddr t x f) (hx : lev tm x = some u) (hl : lfieldAddr P t u f = some v) : OpOK P N o tm h v h :=
  OpOK.value fun base ds ρ a w r => by
    obtain ⟨e1, f1⟩ := r.eval hx
    obtain ⟨h1, h2⟩ := run_lfieldAddr (P := P) r.inv hl f1
    exact ⟨by simp only [execOp, ho, e1, Sem.run_bind, h1, Result.andThen_ok, Sem.run_pure], h2⟩

theorem op_indexAddr {t : TypeId} {x ix : Operand} {u1 u2 v : Value} {sd : Bool} {obs : List Prop} (ho : o.op = .indexAddr t x ix) (hx : lev tm x = some u1) (hy : lev tm ix = some u2)
    (hl : lindexAddr P h sd t u1 u2 = some (v, obs)) (hob : All obs) : OpOK P N o tm h v h :=
  OpOK.value fun base ds ρ a w r => by
    obtain ⟨e1, f1⟩ := r.eval hx
    obtain ⟨e2, f2⟩ := r.eval hy
    obtain ⟨h1, h2⟩ := run_lindexAddr (P := P) r.inv hl hob f1
    exact ⟨by simp only [execOp, ho, e1, e2, Sem.run_bind, h1, Result.andThen_ok, Sem.run_pure], h2⟩

theorem op_index {t : TypeId} {x ix : Operand} {u1 u2 v : Value} {sd : Bool} {vo : Option Value} {obs : List Prop} (ho : o.op = .index t x ix) (hx : lev tm x = some u1) (hy : lev tm ix = some u2)
    (hl : lindex P sd vo t u1 u2 = some (v, obs)) (hob : All obs) : OpOK P N o tm h v h :=
  OpOK.value fun base ds ρ a w r => by
    obtain ⟨e1, f1⟩ := r.eval hx
    obtain ⟨e2, f2⟩ := r.eval hy
    obtain ⟨h1, h2⟩ := run_lindex (P := P) (h := h) (ρ := ρ) hl hob f1 w
    exact ⟨by simp only [execOp, ho, e1, e2, Sem.run_bind, h1, Result.andThen_ok, Sem.run_pure], h2⟩

theorem op_load {t : TypeId} {x : Operand} {u v : Value} {vo : Option Value} {obs : List Prop} (ho : o.op = .load t x) (hx : lev tm x = some u) (hl : lload P h vo t u = some (v, obs)) (hob : All obs) : OpOK P N o tm h v h :=
  OpOK.value fun base ds ρ a w r => by
    obtain ⟨e1, _⟩ := r.eval hx
    obtain ⟨ad, h0, h1, h2⟩ := run_lload (P := P) r.inv hl hob
    refine ⟨?_, h2⟩
    simp only [execOp, ho, e1, h0, Instr.loadAt, Instr.sureAddr, Sem.run_bind, Sem.run_pure, Result.andThen_ok, h1]

def lnilCheck (x : Value) : Option Value :=
  match x with
  | .pointer (some a) => some (.pointer (some a))
  | .func (.func f) a b => some (.func (.func f) a b)
  | _ => none

theorem op_nilCheck {x : Operand} {u v : Value} (ho : o.op = .nilCheck x) (hx : lev tm x = some u) (hl : lnilCheck u = some v) : OpOK P N o tm h v h :=
  OpOK.value fun base ds ρ a w r => by
    obtain ⟨e1, f1⟩ := r.eval hx
    cases u with
    | pointer p =>
      cases p with
      | none => cases hl
      | some ad =>
        cases hl
        obtain ⟨i, of, s⟩ := ad
        obtain ⟨l, hl⟩ := r.inv.loc (wf_pointer f1)
        refine ⟨?_, f1⟩
        rw [tr_ptr hl] at e1 ⊢
        simp only [execOp, ho, e1, Sem.run_pure]
    | func fn f c =>
      cases fn <;> first | (cases hl; done) | skip
      cases hl
      refine ⟨?_, f1⟩
      simp only [execOp, ho, e1, tr, tr2, tr1, Sem.run_pure]
    | _ => cases hl

theorem op_build {t : TypeId} {parts : Array (Nat × Operand)} {vs : List (Nat × Value)} {v : Value} (ho : o.op = .build t parts) (hx : levParts tm parts.toList = some vs) (hl : lbuild P t vs = some v) : OpOK P N o tm h v h :=
  OpOK.value fun base ds ρ a w r => by
    obtain ⟨e1, f1⟩ := levParts_ok r hx
    obtain ⟨h1, h2⟩ := run_lbuild (P := P) (h := h) (ρ := ρ) hl f1 w
    have e2 : parts.map (fun (p : Nat × Operand) => (p.1, a.eval p.2)) = ⟨vs.map fun p => (p.1, tr ρ p.2)⟩ := by
      apply Array.ext'
      rw [Array.toList_map]
      exact e1
    refine ⟨?_, h2⟩
    simp only [execOp, ho]
    rw [Sem.run_bind, e2, h1]
    rfl

theorem op_makeFunc {fn : Fn} {first captured : Array Operand} {fs cs : List Value} {v : Value} (ho : o.op = .makeFunc fn first captured) (hf : levAll tm first.toList = some fs) (hc : levAll tm captured.toList = some cs)
    (hl : lmakeFunc fn fs cs = some v) : OpOK P N o tm h v h :=
  OpOK.value fun base ds ρ a w r => by
    obtain ⟨e1, f1⟩ := levAll_ok r hf
    obtain ⟨e2, f2⟩ := levAll_ok r hc
    obtain ⟨h1, h2⟩ := run_lmakeFunc (P := P) (h := h) (ρ := ρ) hl f1 f2 w
    have g1 : first.map a.eval = ⟨fs.map (tr ρ)⟩ := by apply Array.ext'; rw [Array.toList_map]; exact e1
    have g2 : captured.map a.eval = ⟨cs.map (tr ρ)⟩ := by apply Array.ext'; rw [Array.toList_map]; exact e2
    refine ⟨?_, h2⟩
    simp only [execOp, ho]
    rw [Sem.run_bind, g1, g2, h1]
    rfl

theorem op_len {c : Call} {t : TypeId} {x : Operand} {u v : Value} (ho : o.op = .call c) (hc : c.callee = .builtin .len) (ha : c.args = #[x]) (ht : c.argTypes = #[t]) (hx : lev tm x = some u) (hl : llen P t u = some v) : OpOK P N o tm h v h :=
  OpOK.value fun base ds ρ a w r => by
    obtain ⟨e1, f1⟩ := r.eval hx
    obtain ⟨h1, h2⟩ := run_llen (P := P) r.inv (ty := o.type) hl f1
    refine ⟨?_, h2⟩
    simp only [execOp, ho, resolve, hc, ha, ht, Sem.run_bind, Sem.run_pure, Result.andThen_ok, invoke, builtin]
    have : (#[x] : Array Operand).map a.eval = #[tr ρ u] := by simp [e1]
    rw [this, h1]
    rfl

theorem op_maxmin {c : Call} {x y : Operand} {k k' : IntKind} {m n : Int} {mx : Bool} (ho : o.op = .call c) (hc : c.callee = .builtin (if mx then .max else .min)) (ha : c.args = #[x, y]) (hx : lev tm x = some (.int k m)) (hy : lev tm y = some (.int k' n)) :
    OpOK P N o tm h (.int k (if mx then (if n > m then n else m) else (if n < m then n else m))) h :=
  OpOK.value fun base ds ρ a w r => by
    obtain ⟨e1, _⟩ := r.eval hx
    obtain ⟨e2, _⟩ := r.eval hy
    refine ⟨?_, rfl⟩
    have : (#[x, y] : Array Operand).map a.eval = #[.int k m, .int k' n] := by simp [e1, e2, tr_int]
    cases mx
    · simp only [execOp, ho, resolve, hc, ha, Sem.run_bind, Sem.run_pure, Result.andThen_ok, invoke, builtin, Bool.false_eq_true, if_false]
      rw [this, run_min_int2]
      rfl
    · simp only [execOp, ho, resolve, hc, ha, Sem.run_bind, Sem.run_pure, Result.andThen_ok, invoke, builtin, if_true]
      rw [this, run_max_int2]
      rfl

/-! ### new blocks -/
/-- A new block: behind the others, or at a place that is kept free. -/
def newAt (h : Heap) (i : Nat) (b : Blk) : Option Heap :=
  bif Nat.beq i h.length then some (h ++ [.live b]) else
  match h[i]? with
  | some .unborn => some (h.set i (.live b))
  | _ => none

theorem Moves.newAt {base : Nat} {ρ : Rho} {w : World} (hi : Inv base h ρ w) {i : Nat} {h' : Heap} {vals : List Value} {cs : Array Value} {e : TypeId} {fr : Nat × Nat} {esz ecap : Nat} {row : Option (Nat × Nat)}
    (hn : LE.newAt h i ⟨vals, true, row⟩ = some h') (hv : ∀ v ∈ vals, wf1 h v = true) (hc : ∀ (j : Nat) (v : Value), vals[j]? = some v → cs[j]? = some (tr1 ρ v)) (he : RowOK row ⟨false, w.heap.size, 0, esz, ecap⟩ cs.size e fr)
    (hf : unfrozen cs.size fr) : ∃ ρ', Moves base h ρ w h' ρ' (w.alloc (.cells cs e fr)) ∧ ρ'[i]? = some ⟨false, w.heap.size, 0, esz, ecap⟩ ∧ isBorn h' i = true := by
  unfold LE.newAt at hn
  cases hb : Nat.beq i h.length with
  | true =>
    rw [hb] at hn
    cases hn
    have e1 := Nat.eq_of_beq_eq_true hb
    refine ⟨_, Moves.push hi hv hc he hf, ?_, ?_⟩
    · rw [e1, ← hi.len]; simp
    · rw [e1]; simp [isBorn]
  | false =>
    rw [hb] at hn
    simp only [cond_false] at hn
    cases hu : h[i]? with
    | none => rw [hu] at hn; cases hn
    | some s =>
      rw [hu] at hn
      cases s <;> first | (cases hn; done) | skip
      cases hn
      have hlt : i < h.length := (List.getElem?_eq_some_iff.1 hu).1
      refine ⟨_, Moves.fill hi hu hv hc he hf, ?_, ?_⟩
      · rw [List.getElem?_set_self (by rw [hi.len]; exact hlt)]
      · simp [isBorn, List.getElem?_set_self hlt]

theorem unfrozen_zero (n : Nat) : unfrozen n (0, 0) := fun o _ h => by simp at h

theorem map_get {f : Value → Value} {l : List Value} (j : Nat) (v : Value) (hj : l[j]? = some v) : (⟨l.map f⟩ : Array Value)[j]? = some (f v) := by simp [hj]

def ptrTo (i : Nat) : Value := .pointer (some ⟨i, 0, none⟩)

theorem op_alloc {t : TypeId} {z : Value} {i : Nat} {h' : Heap} (ho : o.op = .alloc t) (hz : zeroOf P t = some z) (hn : newAt h i ⟨lcells z, true, none⟩ = some h') : OpOK P N o tm h (ptrTo i) h' :=
  OpOK.world fun base ds ρ a w r => by
    obtain ⟨z1, z2⟩ := run_zeroValue' hz w
    have zc : z.cells = ⟨(lcells z).map (tr1 ρ)⟩ := by
      have := cells_tr (ρ := ρ) z2
      rwa [tr_closed z (wf_of_wf2 z2)] at this
    obtain ⟨ρ', m, hρ, hb⟩ := Moves.newAt (cs := z.cells) (e := t) (fr := (0, 0)) (esz := 0) (ecap := 0) r.inv hn (fun x hx => wf1_mono (fun i hi => by rw [born_nil] at hi; cases hi) x (wf1_lcells z2 x hx))
      (fun j v hj => by rw [zc]; exact map_get j v hj) trivial (unfrozen_zero _)
    refine ⟨ρ', _, ?_, m, wf_ptr hb⟩
    unfold ptrTo
    rw [tr_ptr hρ]
    simp only [execOp, ho, Instr.alloc, Sem.run_bind, z1, Result.andThen_ok, newVar, newRow, run_newObj, Sem.run_pure, Nat.add_zero]
    rfl

theorem op_box {t : TypeId} {x : Operand} {u : Value} {i : Nat} {h' : Heap} (ho : o.op = .box t x) (hx : lev tm x = some u) (hi2 : isWf2 u = true) (hn : newAt h i ⟨lcells u, true, none⟩ = some h') : OpOK P N o tm h (ptrTo i) h' :=
  OpOK.world fun base ds ρ a w r => by
    obtain ⟨e1, f1⟩ := r.eval hx
    have f2 := wf2_of hi2 f1
    have uc := cells_tr (ρ := ρ) f2
    obtain ⟨ρ', m, hρ, hb⟩ := Moves.newAt (cs := (tr ρ u).cells) (e := t) (fr := (0, 0)) (esz := 0) (ecap := 0) r.inv hn (fun x hx => wf1_lcells f2 x hx)
      (fun j v hj => by rw [uc]; exact map_get j v hj) trivial (unfrozen_zero _)
    refine ⟨ρ', _, ?_, m, wf_ptr hb⟩
    unfold ptrTo
    rw [tr_ptr hρ]
    simp only [execOp, ho, e1, Instr.box, newVar, newRow, Sem.run_bind, run_newObj, Result.andThen_ok, Sem.run_pure, Nat.add_zero]
    rfl

/-! ### a store -/
def lstore (P : Program) (h : Heap) (sd : Bool) (t : TypeId) (x v : Value) : Option (Heap × List Prop) :=
  match x with
  | .pointer (some ⟨i, o, _⟩) =>
    match h[i]? with
    | some (.live ⟨vals, true, row⟩) =>
      bif isWf2 v then
        match szOf P t with
        | some s => bif Nat.beq (lcells v).length s then side sd (o + s ≤ vals.length) (some (setVals h i row (setCells vals o (lcells v)))) else none
        | none => none
      else none
    | _ => none
  | _ => none

theorem op_store {t : TypeId} {x y : Operand} {u v : Value} {sd : Bool} {h' : Heap} {obs : List Prop} (ho : o.op = .store t x y) (hx : lev tm x = some u) (hy : lev tm y = some v) (hl : lstore P h sd t u v = some (h', obs)) (hob : All obs) :
    OpOK P N o tm h undefV h' :=
  OpOK.skip fun base ds ρ a w r => by
    obtain ⟨e1, f1⟩ := r.eval hx
    obtain ⟨e2, f2⟩ := r.eval hy
    unfold lstore at hl
    cases u with
    | pointer p =>
      cases p with
      | none => cases hl
      | some ad =>
        obtain ⟨i, of, s⟩ := ad
        simp only at hl
        cases hg : h[i]? with
        | none => rw [hg] at hl; cases hl
        | some sl =>
          rw [hg] at hl
          cases sl with
          | dead => cases hl
          | unborn => cases hl
          | live b =>
            obtain ⟨vals, own, row⟩ := b
            cases own with
            | false => cases hl
            | true =>
              simp only at hl
              cases hw2 : isWf2 v with
              | false => rw [hw2] at hl; cases hl
              | true =>
                rw [hw2] at hl
                simp only [cond_true] at hl
                cases hz : szOf P t with
                | none => rw [hz] at hl; cases hl
                | some z =>
                  rw [hz] at hl
                  simp only at hl
                  cases hq : Nat.beq (lcells v).length z with
                  | false => rw [hq] at hl; cases hl
                  | true =>
                    rw [hq] at hl
                    simp only [cond_true] at hl
                    obtain ⟨h1, h2⟩ := side_spec hl hob
                    cases h1
                    have hq' := Nat.eq_of_beq_eq_true hq
                    obtain ⟨l, hl'⟩ := r.inv.loc (wf_pointer f1)
                    have f3 := wf2_of hw2 f2
                    obtain ⟨w', m, run⟩ := Moves.storeCells hl' (lcells v) 0 of r.inv hg (by omega) (wf1_lcells f3)
                    refine ⟨ρ, w', ?_, by simpa using m⟩
                    rw [tr_ptr hl'] at e1
                    have c := cells_tr (ρ := ρ) f3
                    have hsz : ¬ ((tr ρ v).cells.size ≠ z) := by rw [c]; simp [hq']
                    simp only [execOp, ho, e1, e2, Instr.storeAt, Instr.sureAddr, Sem.run_bind, Sem.run_pure, Result.andThen_ok, storeVar, run_sizeOf' hz]
                    have := run P
                    simp only [c, List.size_toArray, List.length_map, hq', ne_eq, not_true_eq_false, if_false, Sem.run_bind, Sem.run_pure, Result.andThen_ok, this]
    | _ => cases hl

end
end Go.LE
