import Derived.Test.YtlakggidkijcnaaLeE
set_option linter.all false
/- Operations that leave the memory as it is: built values, and all together. -/
namespace Go.LE
open Go

/-! ### values built out of parts -/
def setCells : List Value → Nat → List Value → List Value
  | cs, _, [] => cs
  | cs, o, c :: r => setCells (cs.set o c) (o + 1) r

theorem setCells_map {f : Value → Value} : ∀ (r cs : List Value) (o : Nat), (setCells cs o r).map f = setCells (cs.map f) o (r.map f)
  | [], _, _ => rfl
  | c :: r, cs, o => by simp only [setCells, List.map_cons]; rw [setCells_map r, List.map_set]

theorem setCells_length : ∀ (r cs : List Value) (o : Nat), (setCells cs o r).length = cs.length
  | [], _, _ => rfl
  | c :: r, cs, o => by simp only [setCells]; rw [setCells_length r, List.length_set]

theorem setCells_mem : ∀ (r cs : List Value) (o : Nat) (x : Value), x ∈ setCells cs o r → x ∈ cs ∨ x ∈ r
  | [], _, _, _, h => .inl h
  | c :: r, cs, o, x, h => by
    simp only [setCells] at h
    rcases setCells_mem r _ _ x h with h | h
    · rcases List.mem_or_eq_of_mem_set h with h | h
      · exact .inl h
      · exact .inr (by rw [h]; exact List.mem_cons_self ..)
    · exact .inr (List.mem_cons_of_mem _ h)

theorem foldl_setCells : ∀ (r : List Value) (k off : Nat) (cs : List Value),
    (r.zipIdx k).foldl (fun (cs : Array Value) (x : Value × Nat) => cs.setIfInBounds (off + x.2) x.1) ⟨cs⟩ = ⟨setCells cs (off + k) r⟩
  | [], _, _, _ => rfl
  | c :: r, k, off, cs => by
    simp only [List.zipIdx_cons, List.foldl_cons, setCells]
    have : (⟨cs⟩ : Array Value).setIfInBounds (off + k) c = ⟨cs.set (off + k) c⟩ := by apply Array.ext'; simp
    rw [this, foldl_setCells r (k + 1) off]
    rfl

def lfill (place : Nat → Option (Nat × Nat)) : List Value → List (Nat × Value) → Option (List Value)
  | cs, [] => some cs
  | cs, (i, v) :: rest =>
    match place i with
    | none => none
    | some (off, size) => bif Nat.beq (lcells v).length size && Nat.ble (off + (lcells v).length) cs.length then lfill place (setCells cs off (lcells v)) rest else none

theorem run_fill {h : Heap} {ρ : Rho} {place : Nat → Option (Nat × Nat)} : ∀ (parts : List (Nat × Value)) (cs r : List Value), lfill place cs parts = some r → (∀ p ∈ parts, wf2 h p.2 = true) →
    Instr.fill place ⟨cs.map (tr1 ρ)⟩ (parts.map fun p => (p.1, tr ρ p.2)) = some ⟨r.map (tr1 ρ)⟩
  | [], cs, r, hl, _ => by cases hl; rfl
  | (i, v) :: rest, cs, r, hl, hw => by
    unfold lfill at hl
    simp only [List.map_cons, Instr.fill]
    cases hp : place i with
    | none => rw [hp] at hl; cases hl
    | some os =>
      obtain ⟨off, size⟩ := os
      rw [hp] at hl
      simp only at hl ⊢
      cases hc : (Nat.beq (lcells v).length size && Nat.ble (off + (lcells v).length) cs.length) with
      | false => rw [hc] at hl; cases hl
      | true =>
        rw [hc] at hl
        simp only [cond_true] at hl
        simp only [Bool.and_eq_true] at hc
        have h1 := Nat.eq_of_beq_eq_true hc.1
        have h2 := Nat.le_of_ble_eq_true hc.2
        have e := cells_tr (ρ := ρ) (hw (i, v) (by simp))
        rw [e]
        rw [if_neg (by simp only [List.size_toArray, List.length_map, Bool.or_eq_true, decide_eq_true_eq]; omega)]
        have ih := run_fill (h := h) (ρ := ρ) rest _ r hl (fun p hp => hw p (by simp [hp]))
        rw [setCells_map] at ih
        rw [← ih]
        congr 1
        have := foldl_setCells ((lcells v).map (tr1 ρ)) 0 off (cs.map (tr1 ρ))
        rw [Nat.add_zero] at this
        rw [← this, ← Array.foldl_toList, Array.toList_zipIdx]

theorem fill_wf {h : Heap} {place : Nat → Option (Nat × Nat)} : ∀ (parts : List (Nat × Value)) (cs r : List Value), lfill place cs parts = some r → (∀ p ∈ parts, wf2 h p.2 = true) → (∀ x ∈ cs, wf1 h x = true) →
    ∀ x ∈ r, wf1 h x = true
  | [], cs, r, hl, _, hcs => by cases hl; exact hcs
  | (i, v) :: rest, cs, r, hl, hw, hcs => by
    unfold lfill at hl
    cases hp : place i with
    | none => rw [hp] at hl; cases hl
    | some os =>
      obtain ⟨off, size⟩ := os
      rw [hp] at hl
      simp only at hl
      cases hc : (Nat.beq (lcells v).length size && Nat.ble (off + (lcells v).length) cs.length) with
      | false => rw [hc] at hl; cases hl
      | true =>
        rw [hc] at hl
        refine fill_wf rest _ r hl (fun p hp => hw p (by simp [hp])) fun x hx => ?_
        rcases setCells_mem _ _ _ x hx with h1 | h1
        · exact hcs x h1
        · exact wf1_lcells (hw (i, v) (by simp)) x h1

/-- The parts' values. -/
def levParts (tm : Tm) : List (Nat × Operand) → Option (List (Nat × Value))
  | [] => some []
  | (i, x) :: l =>
    match lev tm x, levParts tm l with
    | some v, some r => some ((i, v) :: r)
    | _, _ => none

def isWf2 : Value → Bool
  | .tuple _ => false
  | _ => true

theorem wf2_of {h : Heap} {v : Value} (hi : isWf2 v = true) (hw : wf h v = true) : wf2 h v = true := by
  cases v <;> first | exact hw | cases hi

theorem levParts_ok {base N : Nat} {ds : List Deferred} {h : Heap} {ρ : Rho} {tm : Tm} {a : Act} {w : World} (r : Rel base N ds h ρ tm a w) : ∀ {ps : List (Nat × Operand)} {vs : List (Nat × Value)}, levParts tm ps = some vs →
    ps.map (fun p => (p.1, a.eval p.2)) = vs.map (fun p => (p.1, tr ρ p.2)) ∧ ∀ p ∈ vs, wf h p.2 = true
  | [], vs, h1 => by cases h1; exact ⟨rfl, by simp⟩
  | (i, x) :: l, vs, h1 => by
    unfold levParts at h1
    cases hx : lev tm x with
    | none => rw [hx] at h1; cases h1
    | some v =>
      rw [hx] at h1
      cases hl : levParts tm l with
      | none => rw [hl] at h1; cases h1
      | some r' =>
        rw [hl] at h1
        cases h1
        obtain ⟨e1, e2⟩ := r.eval hx
        obtain ⟨i1, i2⟩ := levParts_ok r hl
        refine ⟨by simp [e1, i1], fun p hp => ?_⟩
        rcases List.mem_cons.1 hp with h | h
        · rw [h]; exact e2
        · exact i2 p h

def sizesOk (P : Program) : List Field → Bool
  | [] => true
  | f :: fs => match szOf P f.type with | some _ => sizesOk P fs | none => false

def placeOf (P : Program) (fs : List Field) (i : Nat) : Option (Nat × Nat) :=
  match fs[i]? with
  | some f => match szOf P f.type with | some s => some (f.offset, s) | none => none
  | none => none

def lbuild (P : Program) (t : TypeId) (parts : List (Nat × Value)) : Option Value :=
  match zeroOf P t with
  | some z =>
    match P.underlying t with
    | some (.struct fs) =>
      bif sizesOk P fs.toList && parts.all (fun p => isWf2 p.2) then
        match lfill (placeOf P fs.toList) (lcells z) parts with
        | some cs => some (.agg ⟨cs⟩)
        | none => none
      else none
    | some (.array _ e) =>
      match szOf P e with
      | some s =>
        bif parts.all (fun p => isWf2 p.2) then
          match lfill (fun i => some (i * s, s)) (lcells z) parts with
          | some cs => some (.agg ⟨cs⟩)
          | none => none
        else none
      | none => none
    | _ => none
  | none => none

theorem sizesOk_mem {P : Program} : ∀ {l : List Field}, sizesOk P l = true → ∀ f ∈ l, ∃ s, szOf P f.type = some s
  | [], _, f, hf => by cases hf
  | g :: l, h, f, hf => by
    unfold sizesOk at h
    cases hg : szOf P g.type with
    | none => rw [hg] at h; cases h
    | some s =>
      rw [hg] at h
      rcases List.mem_cons.1 hf with h1 | h1
      · rw [h1]; exact ⟨s, hg⟩
      · exact sizesOk_mem h f h1

theorem run_lbuild {P : Program} {h : Heap} {ρ : Rho} {t : TypeId} {parts : List (Nat × Value)} {v : Value} (hl : lbuild P t parts = some v) (hw : ∀ p ∈ parts, wf h p.2 = true) (w : World) :
    (Instr.build t ⟨parts.map fun p => (p.1, tr ρ p.2)⟩).run P w = .ok (tr ρ v) w ∧ wf h v = true := by
  unfold lbuild at hl
  cases hz : zeroOf P t with
  | none => rw [hz] at hl; cases hl
  | some z =>
    rw [hz] at hl
    simp only at hl
    obtain ⟨z1, z2⟩ := run_zeroValue' hz w
    have zc : z.cells = ⟨(lcells z).map (tr1 ρ)⟩ := by
      have := cells_tr (ρ := ρ) z2
      rwa [tr_closed z (wf_of_wf2 z2)] at this
    have zw : ∀ x ∈ lcells z, wf1 h x = true := fun x hx => wf1_mono (fun i hi => by rw [born_nil] at hi; cases hi) x (wf1_lcells z2 x hx)
    cases hu : P.underlying t with
    | none => rw [hu] at hl; cases hl
    | some d =>
      rw [hu] at hl
      cases d <;> first | (cases hl; done) | skip
      case struct fs =>
        simp only at hl
        cases hc : (sizesOk P fs.toList && parts.all (fun p => isWf2 p.2)) with
        | false => rw [hc] at hl; cases hl
        | true =>
          rw [hc] at hl
          simp only [cond_true] at hl
          simp only [Bool.and_eq_true] at hc
          obtain ⟨c1, c2⟩ := hc
          have hw2 : ∀ p ∈ parts, wf2 h p.2 = true := fun p hp => wf2_of (List.all_eq_true.1 c2 p hp) (hw p hp)
          cases hf : lfill (placeOf P fs.toList) (lcells z) parts with
          | none => rw [hf] at hl; cases hl
          | some cs =>
            rw [hf] at hl
            cases hl
            have hwf : wf2 h (.agg ⟨cs⟩) = true := List.all_eq_true.2 (fill_wf parts _ cs hf hw2 zw)
            refine ⟨?_, hwf⟩
            have hm := run_mapM_array (P := P) (fun (f : Field) => (do pure (f.offset, ← sizeOf f.type) : Sem (Nat × Nat))) (fun f => (f.offset, (szOf P f.type).getD 0)) fs (fun f hf w => by
              obtain ⟨s, hs⟩ := sizesOk_mem c1 f hf
              simp only [Sem.run_bind, run_sizeOf' hs, Result.andThen_ok, Sem.run_pure, hs, Option.getD_some]) w
            have hpl : (fun i => (⟨fs.toList.map fun f => (f.offset, (szOf P f.type).getD 0)⟩ : Array (Nat × Nat))[i]?) = placeOf P fs.toList := by
              funext i
              unfold placeOf
              simp only [List.getElem?_toArray, List.getElem?_map]
              cases hi : fs.toList[i]? with
              | none => rfl
              | some f =>
                obtain ⟨s, hs⟩ := sizesOk_mem c1 f (List.mem_of_getElem? hi)
                simp [hs]
            have key := run_fill (h := h) (ρ := ρ) parts _ cs hf hw2
            rw [← hpl, ← zc] at key
            simp only [Instr.build, Sem.run_bind, z1, Result.andThen_ok, run_underlying hu, hm]
            simp only [key, Sem.run_pure]
            rfl
      case array len e =>
        simp only at hl
        cases hs : szOf P e with
        | none => rw [hs] at hl; cases hl
        | some s =>
          rw [hs] at hl
          simp only at hl
          cases hc : parts.all (fun p => isWf2 p.2) with
          | false => rw [hc] at hl; cases hl
          | true =>
            rw [hc] at hl
            simp only [cond_true] at hl
            have hw2 : ∀ p ∈ parts, wf2 h p.2 = true := fun p hp => wf2_of (List.all_eq_true.1 hc p hp) (hw p hp)
            cases hf : lfill (fun i => some (i * s, s)) (lcells z) parts with
            | none => rw [hf] at hl; cases hl
            | some cs =>
              rw [hf] at hl
              cases hl
              have hwf : wf2 h (.agg ⟨cs⟩) = true := List.all_eq_true.2 (fill_wf parts _ cs hf hw2 zw)
              refine ⟨?_, hwf⟩
              have key := run_fill (h := h) (ρ := ρ) parts _ cs hf hw2
              rw [← zc] at key
              simp only [Instr.build, Sem.run_bind, z1, Result.andThen_ok, run_underlying hu, run_sizeOf' hs]
              simp only [key, Sem.run_pure]
              rfl

/-! ### an element of a string or of an array that is a value -/
def bt (s : ByteArray) (i : Int) : Int := if h : i.toNat < s.size then ((s[i.toNat]'h).toNat : Int) else 0

def lindex (P : Program) (sd : Bool) (vo : Option Value) (t : TypeId) (x ix : Value) : Option (Value × List Prop) :=
  match ix with
  | .int _ n =>
    match x with
    | .string s =>
      match P.underlying t with
      | some .string => side sd (0 ≤ n ∧ n < s.size) (some (.int .u8 (bt s n)))
      | _ => none
    | .agg cs =>
      match P.underlying t with
      | some (.array len e) =>
        match szOf P e with
        | some s =>
          match vo with
          | none => side sd (0 ≤ n ∧ n < len) (lpart P e cs.toList (n.toNat * s))
          | some v => some (v, [0 ≤ n ∧ n < len, lpart P e cs.toList (n.toNat * s) = some v])
        | none => none
      | _ => none
    | _ => none
  | _ => none

theorem run_lindex {P : Program} {sd : Bool} {vo : Option Value} {t : TypeId} {x ix v : Value} {obs : List Prop} {h : Heap} {ρ : Rho} (hl : lindex P sd vo t x ix = some (v, obs)) (ho : All obs) (hx : wf h x = true) (w : World) :
    (Instr.index t (tr ρ x) (tr ρ ix)).run P w = .ok (tr ρ v) w ∧ wf h v = true := by
  unfold lindex at hl
  cases ix with
  | int k n =>
    simp only at hl
    cases x with
    | string s =>
      simp only at hl
      cases hu : P.underlying t with
      | none => rw [hu] at hl; cases hl
      | some d =>
        rw [hu] at hl
        cases d <;> first | (cases hl; done) | skip
        obtain ⟨h1, h2, h3⟩ := side_spec hl ho
        cases h1
        have h4 : n.toNat < s.size := by omega
        refine ⟨?_, rfl⟩
        simp only [tr_string, tr_int, Instr.index, asIntOf, Sem.run_bind, Sem.run_pure, Result.andThen_ok, run_underlying hu, if_pos h2, bt, dif_pos h4]
        have h5 : s[n.toNat]? = some (s[n.toNat]'h4) := by simp [h4]
        simp only [h5, Sem.run_pure]
    | agg cs =>
      simp only at hl
      cases hu : P.underlying t with
      | none => rw [hu] at hl; cases hl
      | some d =>
        rw [hu] at hl
        cases d <;> first | (cases hl; done) | skip
        rename_i len e
        simp only at hl
        cases hs : szOf P e with
        | none => rw [hs] at hl; cases hl
        | some s =>
          rw [hs] at hl
          simp only at hl
          have e1 : tr ρ (.agg cs) = .agg ⟨cs.toList.map (tr1 ρ)⟩ := rfl
          have fin : lpart P e cs.toList (n.toNat * s) = some v → (0 ≤ n ∧ n < len) → (Instr.index t (tr ρ (.agg cs)) (tr ρ (.int k n))).run P w = .ok (tr ρ v) w ∧ wf h v = true := fun h1 h2 => by
            obtain ⟨p1, p2⟩ := run_part (h := h) (ρ := ρ) h1 (fun x hx' => List.all_eq_true.1 hx x hx') w
            refine ⟨?_, wf_of_wf2 p2⟩
            simp only [e1, tr_int, Instr.index, asIntOf, Sem.run_bind, Sem.run_pure, Result.andThen_ok, run_underlying hu, Sem.run_ite, h2, and_self, if_true, run_sizeOf' hs, p1]
          cases vo with
          | none =>
            obtain ⟨h1, h2⟩ := side_spec hl ho
            exact fin h1 h2
          | some v' =>
            cases hl
            exact fin ho.2.1 ho.1
    | _ => cases hl
  | _ => cases hl

/-! ### functions as values, lengths -/
def levAll (tm : Tm) : List Operand → Option (List Value)
  | [] => some []
  | x :: l =>
    match lev tm x, levAll tm l with
    | some v, some r => some (v :: r)
    | _, _ => none

theorem levAll_ok {base N : Nat} {ds : List Deferred} {h : Heap} {ρ : Rho} {tm : Tm} {a : Act} {w : World} (r : Rel base N ds h ρ tm a w) : ∀ {xs : List Operand} {vs : List Value}, levAll tm xs = some vs →
    xs.map a.eval = vs.map (tr ρ) ∧ ∀ v ∈ vs, wf h v = true
  | [], vs, h1 => by cases h1; exact ⟨rfl, by simp⟩
  | x :: l, vs, h1 => by
    unfold levAll at h1
    cases hx : lev tm x with
    | none => rw [hx] at h1; cases h1
    | some v =>
      rw [hx] at h1
      cases hl : levAll tm l with
      | none => rw [hl] at h1; cases h1
      | some r' =>
        rw [hl] at h1
        cases h1
        obtain ⟨e1, e2⟩ := r.eval hx
        obtain ⟨i1, i2⟩ := levAll_ok r hl
        refine ⟨by simp [e1, i1], fun p hp => ?_⟩
        rcases List.mem_cons.1 hp with h | h
        · rw [h]; exact e2
        · exact i2 p h

def isWf0 : Value → Bool
  | .func _ _ _ => false
  | .iface _ _ => false
  | .agg _ => false
  | .tuple _ => false
  | _ => true

theorem wf0_of {h : Heap} {v : Value} (hi : isWf0 v = true) (hw : wf h v = true) : wf0 h v = true := by
  cases v <;> first | exact hw | cases hi

theorem tr_of_wf0 {h : Heap} {ρ : Rho} {v : Value} (hw : wf0 h v = true) : tr ρ v = tr0 ρ v := by
  rw [tr_of_wf1 (wf1_of_wf0 hw), tr1_of_wf0 hw]

def lmakeFunc (fn : Fn) (first captured : List Value) : Option Value :=
  bif isFunc fn && (first.all isWf0 && captured.all isWf0) then some (.func fn ⟨first⟩ ⟨captured⟩) else none

theorem run_lmakeFunc {P : Program} {h : Heap} {ρ : Rho} {fn : Fn} {first captured : List Value} {v : Value} (hl : lmakeFunc fn first captured = some v) (h1 : ∀ v ∈ first, wf h v = true) (h2 : ∀ v ∈ captured, wf h v = true) (w : World) :
    (Instr.makeFunc fn ⟨first.map (tr ρ)⟩ ⟨captured.map (tr ρ)⟩).run P w = .ok (tr ρ v) w ∧ wf h v = true := by
  unfold lmakeFunc at hl
  cases hc : (isFunc fn && (first.all isWf0 && captured.all isWf0)) with
  | false => rw [hc] at hl; cases hl
  | true =>
    rw [hc] at hl
    cases hl
    simp only [Bool.and_eq_true] at hc
    obtain ⟨c1, c2, c3⟩ := hc
    have w1 : ∀ v ∈ first, wf0 h v = true := fun v hv => wf0_of (List.all_eq_true.1 c2 v hv) (h1 v hv)
    have w2 : ∀ v ∈ captured, wf0 h v = true := fun v hv => wf0_of (List.all_eq_true.1 c3 v hv) (h2 v hv)
    refine ⟨?_, ?_⟩
    · have e1 : first.map (tr ρ) = first.map (tr0 ρ) := List.map_congr_left fun v hv => tr_of_wf0 (w1 v hv)
      have e2 : captured.map (tr ρ) = captured.map (tr0 ρ) := List.map_congr_left fun v hv => tr_of_wf0 (w2 v hv)
      simp only [Instr.makeFunc, Sem.run_pure, e1, e2]
      rfl
    · show wf1 h (.func fn ⟨first⟩ ⟨captured⟩) = true
      simp only [wf1, Bool.and_eq_true]
      exact ⟨c1, List.all_eq_true.2 w1, List.all_eq_true.2 w2⟩

def llen (P : Program) (t : TypeId) (x : Value) : Option Value :=
  match x with
  | .string s => match P.underlying t with | some .string => some (.int .i64 s.size) | _ => none
  | .slice _ n _ => match P.underlying t with | some (.slice _) => some (.int .i64 n) | _ => none
  | .agg _ => match P.underlying t with | some (.array n _) => some (.int .i64 n) | _ => none
  | _ => none

theorem run_llen {P : Program} {h : Heap} {ρ : Rho} {base : Nat} {w : World} (hi : Inv base h ρ w) {t ty : TypeId} {x v : Value} (hl : llen P t x = some v) (hx : wf h x = true) :
    (Builtin.len_ #[t] ty #[tr ρ x]).run P w = .ok (tr ρ v) w ∧ wf h v = true := by
  unfold llen at hl
  cases x with
  | string s =>
    simp only at hl
    cases hu : P.underlying t with
    | none => rw [hu] at hl; cases hl
    | some d =>
      rw [hu] at hl
      cases d <;> first | (cases hl; done) | skip
      cases hl
      exact ⟨by simp [tr_string, Builtin.len_, run_underlying hu, goInt, tr_int], rfl⟩
  | agg cs =>
    simp only at hl
    cases hu : P.underlying t with
    | none => rw [hu] at hl; cases hl
    | some d =>
      rw [hu] at hl
      cases d <;> first | (cases hl; done) | skip
      cases hl
      exact ⟨by simp [Builtin.len_, run_underlying hu, goInt, tr_int], rfl⟩
  | slice a n c =>
    simp only at hl
    cases hu : P.underlying t with
    | none => rw [hu] at hl; cases hl
    | some d =>
      rw [hu] at hl
      cases d <;> first | (cases hl; done) | skip
      rename_i e
      cases hl
      refine ⟨?_, rfl⟩
      have key : ∃ a' c', tr ρ (.slice a n c) = .slice a' n c' := by
        cases a with
        | none => exact ⟨none, c, rfl⟩
        | some a =>
          obtain ⟨i, o, s⟩ := a
          obtain ⟨l, hl⟩ := hi.loc (wf_slice hx)
          cases hn : l.nil with
          | true => exact ⟨none, n, by simp [tr, tr2, tr1, tr0, hl, hn]⟩
          | false => exact ⟨some ⟨l.block, l.off + o, none⟩, if c = 0 then l.ecap - o / l.esz else c, by simp [tr, tr2, tr1, tr0, hl, hn]⟩
      obtain ⟨a', c', e1⟩ := key
      rw [e1]
      simp [Builtin.len_, run_underlying hu, goInt, tr_int]
  | _ => cases hl

end Go.LE
