import Derived.Test.YtlakggidkijcnaaLeK
set_option linter.all false
/- A call, told locally; and the evaluator. -/
namespace Go.LE
open Go

/-! ### addresses turned back -/
def indexOf : List Nat → Nat → Nat → Option Nat
  | [], _, _ => none
  | k :: l, j, i => bif Nat.beq k j then some i else indexOf l j (i + 1)

theorem indexOf_get : ∀ {l : List Nat} {j i r : Nat}, indexOf l j i = some r → i ≤ r ∧ l[r - i]? = some j
  | [], _, _, _, h => by cases h
  | k :: l, j, i, r, h => by
    unfold indexOf at h
    cases hb : Nat.beq k j with
    | true => rw [hb] at h; cases h; exact ⟨Nat.le_refl _, by simp [Nat.eq_of_beq_eq_true hb]⟩
    | false =>
      rw [hb] at h
      obtain ⟨h1, h2⟩ := indexOf_get (l := l) h
      refine ⟨by omega, ?_⟩
      rw [show r - i = (r - (i + 1)) + 1 by omega]
      simpa using h2

def mapO (f : Value → Option Value) : List Value → Option (List Value)
  | [] => some []
  | v :: l =>
    match f v, mapO f l with
    | some u, some r => some (u :: r)
    | _, _ => none

def inv0 (σ : List Nat) : Value → Option Value
  | .pointer (some ⟨j, o, _⟩) =>
    match indexOf σ j 0 with
    | some i => some (.pointer (some ⟨i, o, none⟩))
    | none => none
  | .slice (some ⟨j, o, _⟩) n c =>
    match indexOf σ j 0 with
    | some i => some (.slice (some ⟨i, o, none⟩) n c)
    | none => none
  | v => some v
def inv1 (σ : List Nat) : Value → Option Value
  | .func fn f c =>
    match mapO (inv0 σ) f.toList, mapO (inv0 σ) c.toList with
    | some f', some c' => some (.func fn ⟨f'⟩ ⟨c'⟩)
    | _, _ => none
  | .iface t v =>
    match inv0 σ v with
    | some u => some (.iface t u)
    | none => none
  | v => inv0 σ v
def inv2 (σ : List Nat) : Value → Option Value
  | .agg cs =>
    match mapO (inv1 σ) cs.toList with
    | some l => some (.agg ⟨l⟩)
    | none => none
  | v => inv1 σ v
def inv (σ : List Nat) : Value → Option Value
  | .tuple vs =>
    match mapO (inv2 σ) vs.toList with
    | some l => some (.tuple ⟨l⟩)
    | none => none
  | v => inv2 σ v

section
variable {H hs : Heap} {σ : List Nat}

theorem inv0_ok (hb : ∀ i, i < σ.length → isBorn hs i = true) {v u : Value} (hi : inv0 σ v = some u) (hv : wf0 H v = true) : rn0 σ u = v ∧ wf0 hs u = true := by
  cases v with
  | pointer a =>
    cases a with
    | none => cases hi; exact ⟨rfl, rfl⟩
    | some a =>
      obtain ⟨j, o, s⟩ := a
      simp only [inv0] at hi
      simp only [wf0, Bool.and_eq_true] at hv
      cases hx : indexOf σ j 0 with
      | none => rw [hx] at hi; cases hi
      | some i =>
        rw [hx] at hi
        cases hi
        have h1 := (indexOf_get hx).2
        simp only [Nat.sub_zero] at h1
        have h2 : s = none := by cases s <;> first | rfl | exact absurd hv.2 (by simp)
        subst h2
        exact ⟨by simp [rn0, h1], by simp [wf0, hb i (List.getElem?_eq_some_iff.1 h1).1]⟩
  | slice a n c =>
    cases a with
    | none => cases hi; exact ⟨rfl, rfl⟩
    | some a =>
      obtain ⟨j, o, s⟩ := a
      simp only [inv0] at hi
      simp only [wf0, Bool.and_eq_true] at hv
      cases hx : indexOf σ j 0 with
      | none => rw [hx] at hi; cases hi
      | some i =>
        rw [hx] at hi
        cases hi
        have h1 := (indexOf_get hx).2
        simp only [Nat.sub_zero] at h1
        have h2 : s = none := by cases s <;> first | rfl | exact absurd hv.2 (by simp)
        subst h2
        exact ⟨by simp [rn0, h1], by simp [wf0, hb i (List.getElem?_eq_some_iff.1 h1).1]⟩
  | map r => cases r <;> first | (cases hi; exact ⟨rfl, rfl⟩) | simp [wf0] at hv
  | chan r => cases r <;> first | (cases hi; exact ⟨rfl, rfl⟩) | simp [wf0] at hv
  | func fn f c => cases hv
  | iface t v => cases hv
  | agg cs => cases hv
  | tuple vs => cases hv
  | _ => cases hi; exact ⟨rfl, rfl⟩

theorem mapO_ok {f : Value → Option Value} {g : Value → Value} {p q : Value → Bool} (hf : ∀ v u, f v = some u → p v = true → g u = v ∧ q u = true) : ∀ {l r : List Value}, mapO f l = some r → l.all p = true → r.map g = l ∧ r.all q = true
  | [], r, h, _ => by cases h; exact ⟨rfl, rfl⟩
  | v :: l, r, h, hp => by
    unfold mapO at h
    simp only [List.all_cons, Bool.and_eq_true] at hp
    cases h1 : f v with
    | none => rw [h1] at h; cases h
    | some u =>
      cases h2 : mapO f l with
      | none => rw [h1, h2] at h; cases h
      | some s =>
        rw [h1, h2] at h
        cases h
        obtain ⟨a1, a2⟩ := hf v u h1 hp.1
        obtain ⟨b1, b2⟩ := mapO_ok hf h2 hp.2
        exact ⟨by simp [a1, b1], by simp [a2, b2]⟩

theorem inv1_ok (hb : ∀ i, i < σ.length → isBorn hs i = true) {v u : Value} (hi : inv1 σ v = some u) (hv : wf1 H v = true) : rn1 σ u = v ∧ wf1 hs u = true := by
  cases v with
  | func fn f c =>
    simp only [inv1] at hi
    simp only [wf1, Bool.and_eq_true] at hv
    cases h1 : mapO (inv0 σ) f.toList with
    | none => rw [h1] at hi; cases hi
    | some f' =>
      cases h2 : mapO (inv0 σ) c.toList with
      | none => rw [h1, h2] at hi; cases hi
      | some c' =>
        rw [h1, h2] at hi
        cases hi
        obtain ⟨a1, a2⟩ := mapO_ok (fun v u => inv0_ok (H := H) hb) h1 hv.2.1
        obtain ⟨b1, b2⟩ := mapO_ok (fun v u => inv0_ok (H := H) hb) h2 hv.2.2
        exact ⟨by simp only [rn1, a1, b1], by simp only [wf1, Bool.and_eq_true]; exact ⟨hv.1, a2, b2⟩⟩
  | iface t v =>
    simp only [inv1] at hi
    cases h1 : inv0 σ v with
    | none => rw [h1] at hi; cases hi
    | some u' =>
      rw [h1] at hi
      cases hi
      obtain ⟨a1, a2⟩ := inv0_ok (H := H) hb h1 hv
      exact ⟨by simp only [rn1, a1], a2⟩
  | _ =>
    rw [wf1_low rfl] at hv
    obtain ⟨a1, a2⟩ := inv0_ok (H := H) hb (by exact hi) hv
    exact ⟨by rw [rn1_low (low1_of_wf0 a2)]; exact a1, wf1_of_wf0 a2⟩

theorem inv2_ok (hb : ∀ i, i < σ.length → isBorn hs i = true) {v u : Value} (hi : inv2 σ v = some u) (hv : wf2 H v = true) : rn2 σ u = v ∧ wf2 hs u = true := by
  cases v with
  | agg cs =>
    simp only [inv2] at hi
    cases h1 : mapO (inv1 σ) cs.toList with
    | none => rw [h1] at hi; cases hi
    | some l =>
      rw [h1] at hi
      cases hi
      obtain ⟨a1, a2⟩ := mapO_ok (fun v u => inv1_ok (H := H) hb) h1 hv
      exact ⟨by simp only [rn2, a1], a2⟩
  | _ =>
    rw [wf2_low rfl] at hv
    obtain ⟨a1, a2⟩ := inv1_ok (H := H) hb (by exact hi) hv
    exact ⟨by rw [rn2_low (low2_of_wf1 a2)]; exact a1, wf2_of_wf1 a2⟩

theorem inv_ok (hb : ∀ i, i < σ.length → isBorn hs i = true) {v u : Value} (hi : inv σ v = some u) (hv : wf H v = true) : rn σ u = v ∧ wf hs u = true := by
  cases v with
  | tuple vs =>
    simp only [inv] at hi
    cases h1 : mapO (inv2 σ) vs.toList with
    | none => rw [h1] at hi; cases hi
    | some l =>
      rw [h1] at hi
      cases hi
      obtain ⟨a1, a2⟩ := mapO_ok (fun v u => inv2_ok (H := H) hb) h1 hv
      exact ⟨by simp only [rn, a1], a2⟩
  | _ =>
    rw [wf_low rfl] at hv
    obtain ⟨a1, a2⟩ := inv2_ok (H := H) hb (by exact hi) hv
    exact ⟨by rw [rn_low (low3_of_wf2 a2)]; exact a1, wf_of_wf2 a2⟩

end

/-- Cells without an address. -/
def NoAddr (l : List Value) : Prop := ∀ v ∈ l, wf1 [] v = true

theorem rn0_closed {σ : List Nat} {v : Value} (hv : wf0 [] v = true) : rn0 σ v = v := by
  cases v with
  | pointer a => cases a with
    | none => rfl
    | some a => simp [wf0, isBorn] at hv
  | slice a n c => cases a with
    | none => rfl
    | some a => simp [wf0, isBorn] at hv
  | _ => rfl

theorem rn1_closed {σ : List Nat} {v : Value} (hv : wf1 [] v = true) : rn1 σ v = v := by
  cases v with
  | func fn f c =>
    simp only [wf1, Bool.and_eq_true] at hv
    simp only [rn1, map_id_all (fun v => rn0_closed) _ hv.2.1, map_id_all (fun v => rn0_closed) _ hv.2.2]
  | iface t v => simp only [rn1, rn0_closed hv]
  | _ => rw [wf1_low rfl] at hv; rw [rn1_low rfl]; exact rn0_closed hv

theorem NoAddr.map {σ : List Nat} {l : List Value} (h : NoAddr l) : l.map (rn1 σ) = l := by
  conv => rhs; rw [← List.map_id l]
  exact List.map_congr_left fun v hv => rn1_closed (h v hv)

/-! ### the small memory of a call -/
def smallOf (H : Heap) (σ : List Nat) : List (Nat × Bool) → Option (Heap × List Prop)
  | [] => some ([], [])
  | (j, raw) :: l =>
    match H[j]? with
    | some (.live b) =>
      match smallOf H σ l with
      | some (hs, obs) =>
        bif raw then some (.live b :: hs, NoAddr b.vals :: obs)
        else match mapO (inv1 σ) b.vals with
          | some vals => some (.live ⟨vals, b.own, b.row⟩ :: hs, obs)
          | none => none
      | none => none
    | _ => none

def nodupB : List Nat → Bool
  | [] => true
  | k :: l => !(l.any (Nat.beq k)) && nodupB l

theorem nodupB_ok : ∀ {l : List Nat}, nodupB l = true → l.Nodup
  | [], _ => List.nodup_nil
  | k :: l, h => by
    simp only [nodupB, Bool.and_eq_true, Bool.not_eq_true', List.any_eq_false] at h
    exact List.nodup_cons.2 ⟨fun hm => h.1 k hm (Nat.beq_refl k), nodupB_ok h.2⟩

theorem smallOf_length {H : Heap} {σ : List Nat} : ∀ {l : List (Nat × Bool)} {hs : Heap} {obs : List Prop}, smallOf H σ l = some (hs, obs) → hs.length = l.length
  | [], hs, obs, h => by cases h; rfl
  | (j, raw) :: l, hs, obs, h => by
    unfold smallOf at h
    cases h1 : H[j]? with
    | none => rw [h1] at h; cases h
    | some s =>
      rw [h1] at h
      cases s <;> first | (cases h; done) | skip
      rename_i b
      simp only at h
      cases h2 : smallOf H σ l with
      | none => rw [h2] at h; cases h
      | some q =>
        obtain ⟨hs2, obs2⟩ := q
        rw [h2] at h
        have ih := smallOf_length h2
        cases raw with
        | true => cases h; simp [ih]
        | false =>
          simp only [cond_false] at h
          cases h3 : mapO (inv1 σ) b.vals with
          | none => rw [h3] at h; cases h
          | some vals => rw [h3] at h; cases h; simp [ih]

theorem smallOf_get {H : Heap} {σ : List Nat} : ∀ {l : List (Nat × Bool)} {hs : Heap} {obs : List Prop}, smallOf H σ l = some (hs, obs) → All obs → ∀ (i : Nat) (s : Sl), hs[i]? = some s →
    ∃ (bs b : Blk) (j : Nat), s = .live bs ∧ (l.map (·.1))[i]? = some j ∧ H[j]? = some (Sl.live b) ∧ bs.own = b.own ∧ bs.row = b.row ∧ ((bs.vals = b.vals ∧ NoAddr b.vals) ∨ mapO (inv1 σ) b.vals = some bs.vals)
  | [], hs, obs, h, _, i, s, hi => by cases h; simp at hi
  | (j, raw) :: l, hs, obs, h, ho, i, s, hi => by
    unfold smallOf at h
    cases h1 : H[j]? with
    | none => rw [h1] at h; cases h
    | some sl =>
      rw [h1] at h
      cases sl <;> first | (cases h; done) | skip
      rename_i b
      simp only at h
      cases h2 : smallOf H σ l with
      | none => rw [h2] at h; cases h
      | some q =>
        obtain ⟨hs2, obs2⟩ := q
        rw [h2] at h
        cases raw with
        | true =>
          cases h
          cases i with
          | zero => simp at hi; exact ⟨b, b, j, hi.symm, by simp, h1, rfl, rfl, .inl ⟨rfl, ho.1⟩⟩
          | succ i => exact smallOf_get h2 ho.2 i s (by simpa using hi)
        | false =>
          simp only [cond_false] at h
          cases h3 : mapO (inv1 σ) b.vals with
          | none => rw [h3] at h; cases h
          | some vals =>
            rw [h3] at h
            cases h
            cases i with
            | zero => simp at hi; exact ⟨_, b, j, hi.symm, by simp, h1, rfl, rfl, .inr h3⟩
            | succ i => exact smallOf_get h2 ho i s (by simpa using hi)

theorem Part.of {H : Heap} {l : List (Nat × Bool)} {hs : Heap} {obs : List Prop} (hn : nodupB (l.map (·.1)) = true) (h : smallOf H (l.map (·.1)) l = some (hs, obs)) (ho : All obs) (hw : WfHeap H) :
    Part hs (l.map (·.1)) H ∧ ∀ i, i < (l.map (·.1)).length → isBorn hs i = true := by
  have hlen := smallOf_length h
  have hget := smallOf_get h ho
  have hborn : ∀ i, i < (l.map (·.1)).length → isBorn hs i = true := fun i hi => by
    have hi' : i < hs.length := by rw [hlen]; simpa using hi
    obtain ⟨bs, b, j, e1, _⟩ := hget i hs[i] (List.getElem?_eq_getElem hi')
    exact isBorn_some (List.getElem?_eq_getElem hi') (by rw [e1]; simp)
  refine ⟨⟨nodupB_ok hn, by rw [hlen]; simp, fun i s hi => ?_⟩, hborn⟩
  obtain ⟨bs, b, j, e1, e2, e3, e4, e5, e6⟩ := hget i s hi
  refine ⟨bs, b, j, e1, e2, e3, e4, e5, ?_⟩
  rcases e6 with ⟨e6, e7⟩ | e6
  · rw [e6]
    exact ⟨e7.map.symm, fun v hv => wf1_mono (fun i hi => by rw [born_nil] at hi; cases hi) v (e7 v hv)⟩
  · obtain ⟨a1, a2⟩ := mapO_ok (fun v u => inv1_ok (H := H) hborn) e6 (List.all_eq_true.2 (hw j b e3))
    exact ⟨a1.symm, fun v hv => List.all_eq_true.1 a2 v hv⟩

theorem Inv.wfHeap {base : Nat} {h : Heap} {ρ : Rho} {w : World} (hi : Inv base h ρ w) : WfHeap h := fun i b hb v hv => by
  obtain ⟨l, _, hw, _⟩ := hi.blk i b hb
  exact hw v hv

/-- What the call has left, as the whole memory has it. -/
def backOf (σ : List Nat) : List (Sl × Bool) → Option (Heap × List Prop)
  | [] => some ([], [])
  | (s, raw) :: l =>
    match s, backOf σ l with
    | .live b, some (B, obs) => bif raw then some (.live b :: B, NoAddr b.vals :: obs) else some (.live ⟨b.vals.map (rn1 σ), b.own, b.row⟩ :: B, obs)
    | .dead, some (B, obs) => some (.dead :: B, obs)
    | _, _ => none

theorem backOf_ok {σ : List Nat} : ∀ {l : List (Sl × Bool)} {B : Heap} {obs : List Prop}, backOf σ l = some (B, obs) → All obs → B.length = l.length ∧ ∀ (i : Nat) (s t : Sl), (l.map (·.1))[i]? = some s → B[i]? = some t → Back σ s t
  | [], B, obs, h, _ => by cases h; exact ⟨rfl, fun i s t h => by simp at h⟩
  | (s, raw) :: l, B, obs, h, ho => by
    unfold backOf at h
    cases h2 : backOf σ l with
    | none => rw [h2] at h; cases s <;> cases h
    | some q =>
      obtain ⟨B2, obs2⟩ := q
      rw [h2] at h
      cases s with
      | unborn => cases h
      | dead =>
        cases h
        obtain ⟨i1, i2⟩ := backOf_ok h2 ho
        refine ⟨by simp [i1], fun i s t h1 h3 => ?_⟩
        cases i with
        | zero => simp at h1 h3; subst h1; subst h3; exact trivial
        | succ i => exact i2 i s t (by simpa using h1) (by simpa using h3)
      | live b =>
        simp only at h
        cases raw with
        | true =>
          cases h
          obtain ⟨i1, i2⟩ := backOf_ok h2 ho.2
          refine ⟨by simp [i1], fun i s t h1 h3 => ?_⟩
          cases i with
          | zero => simp at h1 h3; subst h1; subst h3; exact ⟨rfl, rfl, ho.1.map.symm⟩
          | succ i => exact i2 i s t (by simpa using h1) (by simpa using h3)
        | false =>
          cases h
          obtain ⟨i1, i2⟩ := backOf_ok h2 ho
          refine ⟨by simp [i1], fun i s t h1 h3 => ?_⟩
          cases i with
          | zero => simp at h1 h3; subst h1; subst h3; exact ⟨rfl, rfl, rfl⟩
          | succ i => exact i2 i s t (by simpa using h1) (by simpa using h3)

/-! ### the call -/
def callable (P : Program) (f : Nat) : Bool :=
  match P.funcs[f]? with
  | some fn => !(fn.name == "runtime.NumGoroutine") && fn.body.isSome
  | none => false

theorem run_callFunc {P : Program} {f : Nat} (hf : callable P f = true) (args : Array Value) (w : World) : (callFunc f args).run P w = .ok (.enter f args) w := by
  unfold callable at hf
  cases h1 : P.funcs[f]? with
  | none => rw [h1] at hf; cases hf
  | some fn =>
    rw [h1] at hf
    simp only [Bool.and_eq_true, Bool.not_eq_true'] at hf
    have h3 : fn.body.isNone = false := by cases hb : fn.body <;> simp_all
    simp only [callFunc, Sem.run_bind, run_program, Result.andThen_ok, h1, hf.1, h3, Bool.false_eq_true, if_false, Sem.run_pure]

/-- The function that is called, and all that it is handed. -/
def calleeOf (tm : Tm) (c : Call) : Option (Nat × List Value) :=
  match c.callee with
  | .value x =>
    match lev tm x, levAll tm c.args.toList with
    | some (.func (.func f) first captured), some args => some (f, first.toList ++ (args ++ captured.toList))
    | _, _ => none
  | _ => none

def lcall (P : Program) (tm : Tm) (h : Heap) (c : Call) (σ : List (Nat × Bool)) (v : Value) (hs' : List (Sl × Bool)) : Option (Value × Heap × List Prop) :=
  match calleeOf tm c with
  | some (f, args) =>
    match mapO (inv (σ.map (·.1))) args, smallOf h (σ.map (·.1)) σ, backOf (places (σ.map (·.1)) h.length hs'.length) hs' with
    | some as, some (hs, obs1), some (B, obs2) =>
      bif callable P f && (nodupB (σ.map (·.1))) then
        some (rn (places (σ.map (·.1)) h.length hs'.length) v, setMany h (σ.map (·.1)) (B.take σ.length) ++ B.drop σ.length, LCalls P f as hs v (hs'.map (·.1)) :: (obs1 ++ obs2))
      else none
    | _, _, _ => none
  | none => none

theorem All.append {l m : List Prop} (h : All (l ++ m)) : All l ∧ All m := by
  induction l with
  | nil => exact ⟨trivial, h⟩
  | cons p l ih => exact ⟨⟨h.1, (ih h.2).1⟩, (ih h.2).2⟩

set_option maxHeartbeats 1000000 in
theorem op_call {P : Program} {N : Nat} {o : Oper} {tm : Tm} {h h' : Heap} {c : Call} {σ : List (Nat × Bool)} {v u : Value} {hs' : List (Sl × Bool)} {obs : List Prop} (ho : o.op = .call c) (hl : lcall P tm h c σ v hs' = some (u, h', obs)) (hob : All obs) :
    OpOK P N o tm h u h' := by
  intro base ds ρ a w K Q r k
  unfold lcall at hl
  cases hc : calleeOf tm c with
  | none => rw [hc] at hl; cases hl
  | some fa =>
    obtain ⟨f, args⟩ := fa
    rw [hc] at hl
    simp only at hl
    cases h1 : mapO (inv (σ.map (·.1))) args with
    | none => rw [h1] at hl; cases hl
    | some as =>
      cases h2 : smallOf h (σ.map (·.1)) σ with
      | none => rw [h1, h2] at hl; cases hl
      | some q =>
        obtain ⟨hs, obs1⟩ := q
        cases h3 : backOf (places (σ.map (·.1)) h.length hs'.length) hs' with
        | none => rw [h1, h2, h3] at hl; cases hl
        | some q =>
          obtain ⟨B, obs2⟩ := q
          rw [h1, h2, h3] at hl
          simp only at hl
          cases h4 : (callable P f && (nodupB (σ.map (·.1)))) with
          | false => rw [h4] at hl; cases hl
          | true =>
            rw [h4] at hl
            cases hl
            simp only [Bool.and_eq_true] at h4
            obtain ⟨c1, c2⟩ := h4
            obtain ⟨o1, o2⟩ := hob
            obtain ⟨o2, o3⟩ := All.append o2
            obtain ⟨part, hborn⟩ := Part.of c2 h2 o2 r.inv.wfHeap
            obtain ⟨b1, b2⟩ := backOf_ok h3 o3
            -- the function and its arguments
            unfold calleeOf at hc
            cases hcal : c.callee with
            | invoke x y => rw [hcal] at hc; cases hc
            | builtin b => rw [hcal] at hc; cases hc
            | value x =>
              rw [hcal] at hc
              simp only at hc
              cases hx : lev tm x with
              | none => rw [hx] at hc; cases hc
              | some fv =>
                rw [hx] at hc
                cases fv <;> first | (cases hc; done) | skip
                rename_i fn first captured
                cases fn <;> first | (cases hc; done) | skip
                rename_i g
                cases ha : levAll tm c.args.toList with
                | none => rw [ha] at hc; cases hc
                | some vs =>
                  rw [ha] at hc
                  cases hc
                  obtain ⟨e1, f1⟩ := r.eval hx
                  obtain ⟨e2, f2⟩ := levAll_ok r ha
                  have hfw : (first.toList.all (wf0 h) = true) ∧ captured.toList.all (wf0 h) = true := by
                    have : wf1 h (.func (.func f) first captured) = true := f1
                    simp only [wf1, Bool.and_eq_true] at this
                    exact this.2
                  have up : ∀ {l : List Value}, l.all (wf0 h) = true → (∀ v ∈ l, wf h v = true) ∧ l.map (tr0 ρ) = l.map (tr ρ) := fun {l} hl =>
                    ⟨fun v hv => wf_of_wf1 (wf1_of_wf0 (List.all_eq_true.1 hl v hv)), List.map_congr_left fun v hv => (tr_of_wf0 (List.all_eq_true.1 hl v hv)).symm⟩
                  have allwf : ∀ v ∈ first.toList ++ (vs ++ captured.toList), wf h v = true := fun v hv => by
                    rcases List.mem_append.1 hv with h | h
                    · exact (up hfw.1).1 v h
                    · rcases List.mem_append.1 h with h | h
                      · exact f2 v h
                      · exact (up hfw.2).1 v h
                  obtain ⟨m1, m2⟩ := mapO_ok (fun v u => inv_ok (H := h) hborn) h1 (List.all_eq_true.2 allwf)
                  have hargs : (⟨as.map (tr (pick ρ (σ.map (·.1))))⟩ : Array Value) = (⟨first.toList.map (tr0 ρ)⟩ ++ c.args.map a.eval) ++ ⟨captured.toList.map (tr0 ρ)⟩ := by
                    apply Array.ext'
                    have e3 : as.map (tr (pick ρ (σ.map (·.1)))) = (as.map (rn (σ.map (·.1)))).map (tr ρ) := by
                      rw [List.map_map]
                      exact List.map_congr_left fun v hv => ((tie (part.ties r.inv) v (List.all_eq_true.1 m2 v hv)).1).symm
                    simp only [Array.toList_append, Array.toList_map, e2, (up hfw.1).2, (up hfw.2).2, e3, m1, List.map_append, List.append_assoc]
                  have hrun : (execOp a.eval o).run P w = .ok (.enter f ⟨as.map (tr (pick ρ (σ.map (·.1))))⟩) w := by
                    have e4 : tr ρ (.func (.func f) first captured) = .func (.func f) ⟨first.toList.map (tr0 ρ)⟩ ⟨captured.toList.map (tr0 ρ)⟩ := rfl
                    simp only [execOp, ho, resolve, hcal, e1, e4, Deferred.ofValue, Sem.run_bind, Sem.run_pure, Result.andThen_ok, invoke, run_callFunc c1, hargs]
                  simp only [Oper.wp, hrun, Oper.upon]
                  have hcl := o1 base (pick ρ (σ.map (·.1))) w (part.inv r.inv) (fun v hv => List.all_eq_true.1 m2 v hv)
                  refine Calls.mono hcl ?_
                  rintro e w' ⟨ρs', m, hv, rfl⟩
                  have hl1 : B.length = (hs'.map (·.1)).length := by rw [List.length_map]; exact b1
                  have hl2 : (hs'.map (·.1)).length = hs'.length := List.length_map ..
                  have hl3 : (σ.map (·.1)).length = σ.length := List.length_map ..
                  rw [← hl2] at b2
                  obtain ⟨ρ', mm, ties⟩ := Moves.frame (B := B) part r.inv m hl1 b2
                  rw [hl3] at mm ties
                  rw [hl2] at ties
                  obtain ⟨t1, t2⟩ := tie ties v hv
                  have := k ρ' w' mm t2
                  rw [t1] at this
                  exact this

end Go.LE
