import Derived.Test.YtlakggidkijcnaaLeD
set_option linter.all false
/- Operations that leave the memory as it is: all of them. -/
namespace Go.LE
open Go

def lun (op : UnOp) (x : Value) : Option Value :=
  match op, x with
  | .neg, .int k n => some (.int k (k.wrap (0 - n)))
  | .xor, .int k n => some (.int k (bits .xor k (if k.signed then -1 else k.max) n))
  | .not, .bool b => some (.bool !b)
  | _, _ => none

theorem run_lun {P : Program} {op : UnOp} {x v : Value} {h : Heap} {ρ : Rho} (hl : lun op x = some v) (w : World) : (Op.unary op (tr ρ x)).run P w = .ok (tr ρ v) w ∧ wf h v = true := by
  cases op <;> cases x <;> first | (cases hl; done) | skip
  all_goals
    cases hl
    exact ⟨by simp [tr, tr2, tr1, tr0, Op.unary, Op.intArith, Op.intBits, bits], rfl⟩

def lconv (P : Program) (src dst : TypeId) (x : Value) : Option Value :=
  match x with
  | .int _ n =>
    match P.underlying src, P.underlying dst with
    | some _, some (.int k) => some (.int k (k.wrap n))
    | _, _ => none
  | .string s =>
    match P.underlying src, P.underlying dst with
    | some _, some .string => some (.string s)
    | _, _ => none
  | _ => none

theorem run_lconv {P : Program} {src dst : TypeId} {x v : Value} {h : Heap} {ρ : Rho} (hl : lconv P src dst x = some v) (w : World) : (convert src dst (tr ρ x)).run P w = .ok (tr ρ v) w ∧ wf h v = true := by
  unfold lconv at hl
  cases x with
  | int k n =>
    simp only at hl
    cases hs : P.underlying src with
    | none => rw [hs] at hl; cases hl
    | some ds =>
      cases hd : P.underlying dst with
      | none => rw [hs, hd] at hl; cases hl
      | some dd =>
        rw [hs, hd] at hl
        cases dd <;> first | (cases hl; done) | skip
        cases hl
        exact ⟨by simp [tr_int, convert, run_underlying hs, run_underlying hd, Conv.intToInt], rfl⟩
  | string s =>
    simp only at hl
    cases hs : P.underlying src with
    | none => rw [hs] at hl; cases hl
    | some ds =>
      cases hd : P.underlying dst with
      | none => rw [hs, hd] at hl; cases hl
      | some dd =>
        rw [hs, hd] at hl
        cases dd <;> first | (cases hl; done) | skip
        cases hl
        exact ⟨by simp [tr_string, convert, run_underlying hs, run_underlying hd], rfl⟩
  | _ => cases hl

/-! ### fields -/
def lfield (P : Program) (t : TypeId) (x : Value) (f : Nat) : Option Value :=
  match x with
  | .agg cs =>
    match P.underlying t with
    | some (.struct fs) =>
      match fs[f]? with
      | some fd => lpart P fd.type cs.toList fd.offset
      | none => none
    | _ => none
  | _ => none

theorem run_lfield {P : Program} {t : TypeId} {f : Nat} {x v : Value} {h : Heap} {ρ : Rho} (hl : lfield P t x f = some v) (hx : wf h x = true) (w : World) :
    (Instr.field t (tr ρ x) f).run P w = .ok (tr ρ v) w ∧ wf h v = true := by
  unfold lfield at hl
  cases x with
  | agg cs =>
    simp only at hl
    cases hu : P.underlying t with
    | none => rw [hu] at hl; cases hl
    | some d =>
      rw [hu] at hl
      cases d <;> first | (cases hl; done) | skip
      rename_i fs
      simp only at hl
      cases hf : fs[f]? with
      | none => rw [hf] at hl; cases hl
      | some fd =>
        rw [hf] at hl
        simp only at hl
        obtain ⟨h1, h2⟩ := run_part (ρ := ρ) (h := h) hl (fun x hx' => List.all_eq_true.1 hx x hx') w
        have e : tr ρ (.agg cs) = .agg ⟨cs.toList.map (tr1 ρ)⟩ := rfl
        refine ⟨?_, wf_of_wf2 h2⟩
        rw [e]
        simp only [Instr.field, Sem.run_bind, run_underlying hu, Result.andThen_ok, hf, asAgg, Sem.run_pure]
        exact h1
  | _ => cases hl

def lextract (x : Value) (i : Nat) : Option Value :=
  match x with
  | .tuple vs => vs.toList[i]?
  | _ => none

theorem run_lextract {P : Program} {i : Nat} {x v : Value} {h : Heap} {ρ : Rho} (hl : lextract x i = some v) (hx : wf h x = true) (w : World) :
    (Instr.extract (tr ρ x) i).run P w = .ok (tr ρ v) w ∧ wf h v = true := by
  cases x with
  | tuple vs =>
    simp only [lextract] at hl
    have hv := List.all_eq_true.1 hx v (List.mem_of_getElem? hl)
    have e : tr ρ (.tuple vs) = .tuple ⟨vs.toList.map (tr2 ρ)⟩ := rfl
    have e2 : (⟨vs.toList.map (tr2 ρ)⟩ : Array Value)[i]? = some (tr2 ρ v) := by simp [hl]
    refine ⟨?_, wf_of_wf2 hv⟩
    rw [e]
    simp only [Instr.extract, e2, Sem.run_pure, tr_of_wf2 hv]
  | _ => cases hl

/-! ### addresses -/
theorem wf_pointer {h : Heap} {i o : Nat} {s : Option Nat} (hw : wf h (.pointer (some ⟨i, o, s⟩)) = true) : isBorn h i = true := by
  have : wf0 h (.pointer (some ⟨i, o, s⟩)) = true := hw
  simp only [wf0, Bool.and_eq_true] at this
  exact this.1
theorem wf_slice {h : Heap} {i o n c : Nat} {s : Option Nat} (hw : wf h (.slice (some ⟨i, o, s⟩) n c) = true) : isBorn h i = true := by
  have : wf0 h (.slice (some ⟨i, o, s⟩) n c) = true := hw
  simp only [wf0, Bool.and_eq_true] at this
  exact this.1
theorem wf_ptr {h : Heap} {i o : Nat} (hb : isBorn h i = true) : wf h (.pointer (some ⟨i, o, none⟩)) = true := by
  show wf0 h (.pointer (some ⟨i, o, none⟩)) = true
  simp [wf0, hb]
theorem tr_ptr {ρ : Rho} {i o : Nat} {s : Option Nat} {l : Loc} (hl : ρ[i]? = some l) : tr ρ (.pointer (some ⟨i, o, s⟩)) = .pointer (some ⟨l.block, l.off + o, none⟩) := by
  simp [tr, tr2, tr1, tr0, hl]

theorem add_plain' (b o n : Nat) : Addr.add ⟨b, o, none⟩ n = ⟨b, o + n, none⟩ := by
  unfold Addr.add
  split
  · rename_i h; subst h; rfl
  · rfl

def lfieldAddr (P : Program) (t : TypeId) (x : Value) (f : Nat) : Option Value :=
  match x with
  | .pointer (some ⟨i, o, _⟩) =>
    match P.underlying t with
    | some (.struct fs) =>
      match fs[f]? with
      | some fd =>
        match szOf P fd.type with
        | some (_ + 1) => some (.pointer (some ⟨i, o + fd.offset, none⟩))
        | _ => none
      | none => none
    | _ => none
  | _ => none

theorem run_lfieldAddr {P : Program} {t : TypeId} {f : Nat} {x v : Value} {base : Nat} {h : Heap} {ρ : Rho} {w : World} (hi : Inv base h ρ w) (hl : lfieldAddr P t x f = some v) (hx : wf h x = true) :
    (Instr.fieldAt t (tr ρ x) f).run P w = .ok (tr ρ v) w ∧ wf h v = true := by
  unfold lfieldAddr at hl
  cases x with
  | pointer a =>
    cases a with
    | none => cases hl
    | some a =>
      obtain ⟨i, o, s⟩ := a
      simp only at hl
      cases hu : P.underlying t with
      | none => rw [hu] at hl; cases hl
      | some d =>
        rw [hu] at hl
        cases d <;> first | (cases hl; done) | skip
        rename_i fs
        simp only at hl
        cases hf : fs[f]? with
        | none => rw [hf] at hl; cases hl
        | some fd =>
          rw [hf] at hl
          simp only at hl
          cases hz : szOf P fd.type with
          | none => rw [hz] at hl; cases hl
          | some z =>
            rw [hz] at hl
            cases z with
            | zero => cases hl
            | succ z =>
              cases hl
              have hb := wf_pointer hx
              obtain ⟨l, hl'⟩ := hi.loc hb
              refine ⟨?_, wf_ptr hb⟩
              rw [tr_ptr hl', tr_ptr hl']
              simp only [Instr.fieldAt, Sem.run_bind, run_underlying hu, Result.andThen_ok, hf, Instr.sureAddr, Sem.run_pure, fieldPlace, run_sizeOf' hz, Nat.add_one_ne_zero, if_false, add_plain', Nat.add_assoc]
  | _ => cases hl

def lindexAddr (P : Program) (h : Heap) (sd : Bool) (t : TypeId) (x ix : Value) : Option (Value × List Prop) :=
  match ix with
  | .int _ n =>
    match x with
    | .pointer (some ⟨i, o, _⟩) =>
      match P.underlying t with
      | some (.array len e) =>
        match szOf P e with
        | some s => side sd (0 ≤ n ∧ n < len) (some (.pointer (some ⟨i, o + n.toNat * s, none⟩)))
        | none => none
      | _ => none
    | .slice (some ⟨i, o, _⟩) len _ =>
      match P.underlying t with
      | some (.slice e) =>
        match szOf P e, h[i]? with
        | some s, some (.live b) => side sd ((0 ≤ n ∧ n < len) ∧ o + n.toNat * s < b.vals.length) (some (.pointer (some ⟨i, o + n.toNat * s, none⟩)))
        | _, _ => none
      | _ => none
    | _ => none
  | _ => none

theorem run_lindexAddr {P : Program} {t : TypeId} {x ix v : Value} {sd : Bool} {obs : List Prop} {base : Nat} {h : Heap} {ρ : Rho} {w : World} (hi : Inv base h ρ w)
    (hl : lindexAddr P h sd t x ix = some (v, obs)) (ho : All obs) (hx : wf h x = true) : (Instr.indexAt t (tr ρ x) (tr ρ ix)).run P w = .ok (tr ρ v) w ∧ wf h v = true := by
  unfold lindexAddr at hl
  cases ix with
  | int k n =>
    simp only at hl
    cases x with
    | pointer a =>
      cases a with
      | none => cases hl
      | some a =>
        obtain ⟨i, o, s⟩ := a
        simp only at hl
        cases hu : P.underlying t with
        | none => rw [hu] at hl; cases hl
        | some d =>
          rw [hu] at hl
          cases d <;> first | (cases hl; done) | skip
          rename_i len e
          simp only at hl
          cases hz : szOf P e with
          | none => rw [hz] at hl; cases hl
          | some z =>
            rw [hz] at hl
            obtain ⟨h1, h2⟩ := side_spec hl ho
            cases h1
            have hb := wf_pointer hx
            obtain ⟨l, hl'⟩ := hi.loc hb
            refine ⟨?_, wf_ptr hb⟩
            rw [tr_ptr hl', tr_ptr hl', tr_int]
            simp only [Instr.indexAt, asIntOf, Sem.run_bind, run_underlying hu, Result.andThen_ok, Instr.sureAddr, Sem.run_pure, Sem.run_ite, h2, and_self, if_true, run_sizeOf' hz, add_plain', Nat.add_assoc]
    | slice a len c =>
      cases a with
      | none => cases hl
      | some a =>
        obtain ⟨i, o, s⟩ := a
        simp only at hl
        cases hu : P.underlying t with
        | none => rw [hu] at hl; cases hl
        | some d =>
          rw [hu] at hl
          cases d <;> first | (cases hl; done) | skip
          rename_i e
          simp only at hl
          cases hz : szOf P e with
          | none => rw [hz] at hl; cases hl
          | some z =>
            cases hg : h[i]? with
            | none => rw [hz, hg] at hl; cases hl
            | some sl =>
              rw [hz, hg] at hl
              cases sl with
              | dead => cases hl
              | unborn => cases hl
              | live b =>
                obtain ⟨h1, h2, h3⟩ := side_spec hl ho
                cases h1
                have hb := wf_slice hx
                obtain ⟨l, hl', hc⟩ := hi.cell hg
                have hn := (hc _ _ (List.getElem?_eq_getElem h3)).2.2
                refine ⟨?_, wf_ptr hb⟩
                have e1 : tr ρ (.slice (some ⟨i, o, s⟩) len c) = .slice (some ⟨l.block, l.off + o, none⟩) len (if c = 0 then l.ecap - o / l.esz else c) := by simp [tr, tr2, tr1, tr0, hl', hn]
                rw [tr_ptr hl', e1, tr_int]
                simp only [Instr.indexAt, asIntOf, Sem.run_bind, run_underlying hu, Result.andThen_ok, Sem.run_pure, Sem.run_ite, h2, and_self, if_true, run_sizeOf' hz, add_plain', Nat.add_assoc]
    | _ => cases hl
  | _ => cases hl

/-! ### reading -/
def lload (P : Program) (h : Heap) (vo : Option Value) (t : TypeId) (x : Value) : Option (Value × List Prop) :=
  match x with
  | .pointer (some ⟨i, o, _⟩) =>
    match h[i]? with
    | some (.live b) =>
      match aggOf P t with
      | some true =>
        match szOf P t with
        | some s =>
          match vo with
          | none => bif Nat.beq (sub b.vals o s).length s then some (.agg ⟨sub b.vals o s⟩, []) else none
          | some v =>
            match v with
            | .agg cs => some (.agg cs, [sub b.vals o s = cs.toList, cs.toList.length = s])
            | _ => none
        | none => none
      | some false =>
        match vo with
        | none => match b.vals[o]? with | some v => some (v, []) | none => none
        | some v => some (v, [b.vals[o]? = some v])
      | none => none
    | _ => none
  | _ => none

theorem run_loadAgg {P : Program} {base : Nat} {h : Heap} {ρ : Rho} {w : World} (hi : Inv base h ρ w) {t : TypeId} {i o s : Nat} {b : Blk} {l : Loc} (hb : h[i]? = some (Sl.live b)) (hl : ρ[i]? = some l) (ha : aggOf P t = some true)
    (hs : szOf P t = some s) (hlen : (sub b.vals o s).length = s) :
    (loadVar t ⟨l.block, l.off + o, none⟩).run P w = .ok (tr ρ (.agg ⟨sub b.vals o s⟩)) w ∧ wf h (.agg ⟨sub b.vals o s⟩) = true := by
  obtain ⟨l', hl', hc⟩ := hi.cell hb
  rw [hl] at hl'
  cases hl'
  have cell : ∀ (j : Nat) (v : Value), (sub b.vals o s)[j]? = some v → b.vals[o + j]? = some v := fun j v hj => by
    unfold sub at hj
    have : j < s := by
      rcases Nat.lt_or_ge j s with h | h
      · exact h
      · rw [List.getElem?_eq_none (by rw [List.length_take]; omega)] at hj; cases hj
    rw [List.getElem?_take_of_lt this, List.getElem?_drop] at hj
    exact hj
  have key := run_loadCells_list (P := P) (w := w) ⟨l.block, l.off + o, none⟩ ((sub b.vals o s).map (tr1 ρ)) (fun j v hj => by
    rw [List.getElem?_map, Option.map_eq_some_iff] at hj
    obtain ⟨u, hu, rfl⟩ := hj
    rw [add_plain', Nat.add_assoc]
    exact (hc _ _ (cell j u hu)).1)
  rw [List.length_map, hlen] at key
  have hw : wf2 h (.agg ⟨sub b.vals o s⟩) = true := List.all_eq_true.2 fun x hx => by
    obtain ⟨j, hj⟩ := List.getElem?_of_mem hx
    exact (hc _ _ (cell j x hj)).2.1
  refine ⟨?_, hw⟩
  simp only [loadVar, Sem.run_bind, run_isAgg' ha, Result.andThen_ok, if_true, run_sizeOf' hs, key, Sem.run_pure]
  rfl

theorem run_lload {P : Program} {base : Nat} {h : Heap} {ρ : Rho} {w : World} (hi : Inv base h ρ w) {vo : Option Value} {t : TypeId} {x v : Value} {obs : List Prop} (hl : lload P h vo t x = some (v, obs)) (ho : All obs) :
    ∃ a, tr ρ x = .pointer (some a) ∧ (loadVar t a).run P w = .ok (tr ρ v) w ∧ wf h v = true := by
  unfold lload at hl
  cases x with
  | pointer a =>
    cases a with
    | none => cases hl
    | some a =>
      obtain ⟨i, o, sp⟩ := a
      simp only at hl
      cases hb : h[i]? with
      | none => rw [hb] at hl; cases hl
      | some sl =>
        rw [hb] at hl
        cases sl with
        | dead => cases hl
        | unborn => cases hl
        | live b =>
          simp only at hl
          obtain ⟨l, hl', hc⟩ := hi.cell hb
          refine ⟨_, tr_ptr hl', ?_⟩
          cases ha : aggOf P t with
          | none => rw [ha] at hl; cases hl
          | some g =>
            rw [ha] at hl
            cases g with
            | true =>
              simp only at hl
              cases hs : szOf P t with
              | none => rw [hs] at hl; cases hl
              | some s =>
                rw [hs] at hl
                cases vo with
                | none =>
                  simp only at hl
                  cases hn : Nat.beq (sub b.vals o s).length s with
                  | false => rw [hn] at hl; cases hl
                  | true =>
                    rw [hn] at hl
                    cases hl
                    exact run_loadAgg hi hb hl' ha hs (Nat.eq_of_beq_eq_true hn)
                | some v' =>
                  simp only at hl
                  cases v' <;> first | (cases hl; done) | skip
                  rename_i cs
                  cases hl
                  obtain ⟨h1, h2, _⟩ := ho
                  have := run_loadAgg (P := P) hi hb hl' ha hs (o := o) (by rw [h1]; exact h2)
                  rw [h1] at this
                  exact this
            | false =>
              simp only at hl
              have scalar : ∀ u, b.vals[o]? = some u → (loadVar t ⟨l.block, l.off + o, none⟩).run P w = .ok (tr ρ u) w ∧ wf h u = true := fun u hu => by
                obtain ⟨h1, h2, _⟩ := hc o u hu
                refine ⟨?_, wf_of_wf1 h2⟩
                simp only [loadVar, Sem.run_bind, run_isAgg' ha, Result.andThen_ok, Bool.false_eq_true, if_false, run_load, h1]
                rw [tr_of_wf1 h2]
              cases vo with
              | none =>
                simp only at hl
                cases hv : b.vals[o]? with
                | none => rw [hv] at hl; cases hl
                | some u => rw [hv] at hl; cases hl; exact scalar _ hv
              | some v' =>
                cases hl
                exact scalar _ ho.1
  | _ => cases hl

end Go.LE
