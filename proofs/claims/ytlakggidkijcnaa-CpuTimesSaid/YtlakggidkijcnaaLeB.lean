import Derived.Test.YtlakggidkijcnaaLeA
import GoSem.ClaimData
set_option linter.all false
namespace Go.LE
open Go

def unfrozen (n : Nat) (fr : Nat × Nat) : Prop := ∀ o, o < n → ¬ (fr.1 ≤ o ∧ o < fr.2)

def RowOK (row : Option (Nat × Nat)) (l : Loc) (n : Nat) (e : TypeId) (fr : Nat × Nat) : Prop :=
  match row with
  | none => True
  | some (et, sz) => l.off = 0 ∧ l.esz = sz ∧ 0 < sz ∧ e = et ∧ fr = (0, 0) ∧ n = l.ecap * sz ∧ l.ecap ≤ maxLen

def BlkOK (base : Nat) (h : Heap) (ρ : Rho) (b : Blk) (l : Loc) (w : World) : Prop :=
  (∀ v ∈ b.vals, wf1 h v = true) ∧
  ((l.nil = true ∧ b.vals = [] ∧ b.own = true) ∨
   (l.nil = false ∧ b.own = true ∧ base ≤ l.block ∧ ∃ cs e fr, w.heap[l.block]? = some (.cells cs e fr) ∧ unfrozen cs.size fr ∧ RowOK b.row l cs.size e fr ∧ ∀ (j : Nat) (v : Value), b.vals[j]? = some v → cs[l.off + j]? = some (tr1 ρ v)) ∨
   (l.nil = false ∧ b.own = false ∧ l.block < base ∧ ∀ (j : Nat) (v : Value), b.vals[j]? = some v → w.cell? ⟨l.block, l.off + j, none⟩ = some (tr1 ρ v)))

structure Inv (base : Nat) (h : Heap) (ρ : Rho) (w : World) : Prop where
  len : ρ.length = h.length
  base_le : base ≤ w.heap.size
  blk : ∀ (i : Nat) (b : Blk), h[i]? = some (Sl.live b) → ∃ l, ρ[i]? = some l ∧ BlkOK base h ρ b l w
  apart : ∀ (i j : Nat) (bi bj : Blk) (li lj : Loc), i ≠ j → h[i]? = some (Sl.live bi) → h[j]? = some (Sl.live bj) → bi.own = true → bj.own = true → ρ[i]? = some li → ρ[j]? = some lj →
    li.nil = false → lj.nil = false → li.block ≠ lj.block

def Owns (h : Heap) (ρ : Rho) (k : Nat) : Prop := ∃ (i : Nat) (b : Blk) (l : Loc), h[i]? = some (Sl.live b) ∧ b.own = true ∧ ρ[i]? = some l ∧ l.nil = false ∧ l.block = k

structure Moves (base : Nat) (h : Heap) (ρ : Rho) (w : World) (h' : Heap) (ρ' : Rho) (w' : World) : Prop where
  born : ∀ i, isBorn h i = true → isBorn h' i = true
  ext : ∀ i : Nat, isBorn h i = true → ρ'[i]? = ρ[i]?
  inv : Inv base h' ρ' w'
  os : w'.os = w.os
  tape : w'.tape = w.tape
  output : w'.output = w.output
  size : w.heap.size ≤ w'.heap.size
  keep : ∀ k : Nat, k < w.heap.size → ¬ Owns h ρ k → w'.heap[k]? = w.heap[k]?
  new : ∀ k : Nat, Owns h' ρ' k → Owns h ρ k ∨ w.heap.size ≤ k
  grow : ∀ (i : Nat) (b' : Blk), h'[i]? = some (Sl.live b') → isBorn h i = true → ∃ b, h[i]? = some (Sl.live b) ∧ b.own = b'.own
  len : h.length ≤ h'.length

theorem born_live {h : Heap} {i : Nat} {b : Blk} (hi : h[i]? = some (Sl.live b)) : isBorn h i = true := by simp [isBorn, hi]

theorem born_lt {h : Heap} {i : Nat} (hi : isBorn h i = true) : i < h.length := by
  unfold isBorn at hi
  rcases Nat.lt_or_ge i h.length with hl | hl
  · exact hl
  · rw [List.getElem?_eq_none hl] at hi; simp at hi

theorem Moves.refl {base : Nat} {h : Heap} {ρ : Rho} {w : World} (hi : Inv base h ρ w) : Moves base h ρ w h ρ w where
  born := fun _ h => h
  ext := fun _ _ => rfl
  inv := hi
  os := rfl
  tape := rfl
  output := rfl
  size := Nat.le_refl _
  keep := fun _ _ _ => rfl
  new := fun _ h => .inl h
  grow := fun _ b' h _ => ⟨b', h, rfl⟩
  len := Nat.le_refl _

theorem Moves.trans {base : Nat} {h h1 h2 : Heap} {ρ ρ1 ρ2 : Rho} {w w1 w2 : World} (a : Moves base h ρ w h1 ρ1 w1) (b : Moves base h1 ρ1 w1 h2 ρ2 w2) : Moves base h ρ w h2 ρ2 w2 where
  born := fun i hi => b.born i (a.born i hi)
  ext := fun i hi => (b.ext i (a.born i hi)).trans (a.ext i hi)
  inv := b.inv
  os := b.os.trans a.os
  tape := b.tape.trans a.tape
  output := b.output.trans a.output
  size := Nat.le_trans a.size b.size
  keep := fun k hk hn => (b.keep k (Nat.lt_of_lt_of_le hk a.size) fun ho => (a.new k ho).elim hn (fun hle => by omega)).trans (a.keep k hk hn)
  new := fun k ho => (b.new k ho).elim (fun h => a.new k h) (fun h => .inr (Nat.le_trans a.size h))
  grow := fun i b' hi hb => by
    obtain ⟨b1, h1', e1⟩ := b.grow i b' hi (a.born i hb)
    obtain ⟨b0, h0', e0⟩ := a.grow i b1 h1' hb
    exact ⟨b0, h0', e0.trans e1⟩
  len := Nat.le_trans a.len b.len

/-- The draws of a world do not count. -/
theorem Inv.drawn {base : Nat} {h : Heap} {ρ : Rho} {w : World} (hi : Inv base h ρ w) (n : Nat) : Inv base h ρ { w with drawn := n } where
  len := hi.len
  base_le := hi.base_le
  blk := hi.blk
  apart := hi.apart

theorem Moves.drawn {base : Nat} {h : Heap} {ρ : Rho} {w : World} (hi : Inv base h ρ w) (n : Nat) : Moves base h ρ w h ρ { w with drawn := n } :=
  { Moves.refl hi with inv := hi.drawn n }

structure Rel (base N : Nat) (ds : List Deferred) (h : Heap) (ρ : Rho) (tm : Tm) (a : Act) (w : World) : Prop where
  inv : Inv base h ρ w
  size : a.tmps.size = N
  defers : a.defers = ds
  tmp : ∀ (t : Nat) (v : Value), look tm t = some v → a.tmps[t]? = some (tr ρ v) ∧ wf h v = true

def lev (tm : Tm) : Operand → Option Value
  | .tmp t => look tm t
  | .const v => bif wf [] v then some v else none
  | .func f => some (.func (.func f) #[] #[])
  | .global _ => none

theorem tr0_closed {ρ : Rho} (v : Value) (hv : wf0 [] v = true) : tr0 ρ v = v := by
  cases v with
  | pointer a => cases a with
    | none => rfl
    | some a => simp [wf0, isBorn] at hv
  | slice a n c => cases a with
    | none => rfl
    | some a => simp [wf0, isBorn] at hv
  | _ => rfl

theorem map_id_all {f : Value → Value} {p : Value → Bool} (h : ∀ v, p v = true → f v = v) (l : List Value) (hl : l.all p = true) : l.map f = l := by
  conv => rhs; rw [← List.map_id l]
  exact List.map_congr_left fun v hv => h v (List.all_eq_true.1 hl v hv)

theorem tr1_closed {ρ : Rho} (v : Value) (hv : wf1 [] v = true) : tr1 ρ v = v := by
  cases v with
  | func fn f c =>
    simp only [wf1, Bool.and_eq_true] at hv
    simp only [tr1, map_id_all tr0_closed _ hv.2.1, map_id_all tr0_closed _ hv.2.2]
  | iface t v => simp only [tr1, tr0_closed v hv]
  | _ => rw [wf1_low rfl] at hv; rw [tr1_low rfl]; exact tr0_closed _ hv

theorem tr2_closed {ρ : Rho} (v : Value) (hv : wf2 [] v = true) : tr2 ρ v = v := by
  cases v with
  | agg cs => simp only [tr2, map_id_all tr1_closed _ hv]
  | _ => rw [wf2_low rfl] at hv; rw [tr2_low rfl]; exact tr1_closed _ hv

theorem tr_closed {ρ : Rho} (v : Value) (hv : wf [] v = true) : tr ρ v = v := by
  cases v with
  | tuple vs => simp only [tr, map_id_all tr2_closed _ hv]
  | _ => rw [wf_low rfl] at hv; rw [tr_low rfl]; exact tr2_closed _ hv

theorem born_nil {i : Nat} : isBorn [] i = false := by simp [isBorn]

theorem Rel.eval {base N : Nat} {ds : List Deferred} {h : Heap} {ρ : Rho} {tm : Tm} {a : Act} {w : World} (r : Rel base N ds h ρ tm a w) {x : Operand} {v : Value}
    (hx : lev tm x = some v) : a.eval x = tr ρ v ∧ wf h v = true := by
  cases x with
  | tmp t =>
    obtain ⟨h1, h2⟩ := r.tmp t v hx
    exact ⟨by simp [Act.eval, h1], h2⟩
  | const c =>
    simp only [lev] at hx
    cases hc : wf [] c with
    | false => rw [hc] at hx; cases hx
    | true =>
      rw [hc] at hx
      cases hx
      exact ⟨by rw [tr_closed _ hc]; rfl, wf_mono (fun i hi => by rw [born_nil] at hi; cases hi) _ hc⟩
  | global g => cases hx
  | func f => cases hx; exact ⟨by simp [Act.eval, tr, tr2, tr1], by simp [wf, wf2, wf1, isFunc]⟩

/-- What an operation does, told locally. -/
def OpOK (P : Program) (N : Nat) (o : Oper) (tm : Tm) (h : Heap) (v : Value) (h' : Heap) : Prop :=
  ∀ base ds ρ a w (K : Act → World → Prop) (Q : Exit → Act → World → Prop), Rel base N ds h ρ tm a w →
    (∀ ρ' w', Moves base h ρ w h' ρ' w' → wf h' v = true → K (a.put o.dst (tr ρ' v)) w') → o.wp P a w K Q

/-- What a call does, told locally. -/
def LCalls (P : Program) (f : Nat) (args : List Value) (h : Heap) (v : Value) (h' : Heap) : Prop :=
  ∀ base ρ w, Inv base h ρ w → (∀ x ∈ args, wf h x = true) →
    Calls P f ⟨args.map (tr ρ)⟩ w fun e w' => ∃ ρ', Moves base h ρ w h' ρ' w' ∧ wf h' v = true ∧ e = .returned (tr ρ' v)

inductive Ex where
  | normal
  | exit (id : Nat)
  | ret

def Ex.to : Ex → Exit
  | .normal => .normal
  | .exit id => .exit id
  | .ret => .ret

def LPost (base N : Nat) (ds : List Deferred) (h : Heap) (ρ : Rho) (w : World) (e : Ex) (tm' : Tm) (h' : Heap) : Exit → Act → World → Prop :=
  fun e' a' w' => e' = e.to ∧ ∃ ρ', Moves base h ρ w h' ρ' w' ∧ Rel base N ds h' ρ' tm' a' w'

/-- What a piece of code does, told locally. -/
def LCode (P : Program) (N : Nat) (c : Code) (tm : Tm) (h : Heap) (e : Ex) (tm' : Tm) (h' : Heap) : Prop :=
  ∀ base ds ρ a w, Rel base N ds h ρ tm a w → c.wp P (LPost base N ds h ρ w e tm' h') a w

/-- A list of operations in its order. -/
def LOps (P : Program) (N : Nat) (ops : Array Oper) (l : List Nat) (tm : Tm) (h : Heap) (tm' : Tm) (h' : Heap) : Prop :=
  ∀ base ds ρ a w (Q : Exit → Act → World → Prop), Rel base N ds h ρ tm a w →
    (∀ ρ' a' w', Moves base h ρ w h' ρ' w' → Rel base N ds h' ρ' tm' a' w' → Q .normal a' w') → wpOps P ops Q l a w

/-! ### Code -/
section
variable {P : Program} {N : Nat}

theorem LCode.skip {tm : Tm} {h : Heap} : LCode P N .skip tm h .normal tm h :=
  fun _ _ _ _ _ r => wp_skip ⟨rfl, _, Moves.refl r.inv, r⟩

theorem LCode.ret {tm : Tm} {h : Heap} : LCode P N .ret tm h .ret tm h :=
  fun _ _ _ _ _ r => wp_ret ⟨rfl, _, Moves.refl r.inv, r⟩

theorem LCode.exit {tm : Tm} {h : Heap} {id : Nat} : LCode P N (.exit id) tm h (.exit id) tm h :=
  fun _ _ _ _ _ r => wp_exit ⟨rfl, _, Moves.refl r.inv, r⟩

theorem LCode.seq {x y : Code} {tm tm1 tm2 : Tm} {h h1 h2 : Heap} {e : Ex} (hx : LCode P N x tm h .normal tm1 h1) (hy : LCode P N y tm1 h1 e tm2 h2) :
    LCode P N (.seq x y) tm h e tm2 h2 := by
  intro base ds ρ a w r
  refine wp_seq (wp_mono (hx base ds ρ a w r) ?_)
  rintro e1 a1 w1 ⟨he, ρ1, m1, r1⟩
  subst he
  refine wp_mono (hy base ds ρ1 a1 w1 r1) ?_
  rintro e2 a2 w2 ⟨he, ρ2, m2, r2⟩
  exact ⟨he, ρ2, m1.trans m2, r2⟩

theorem LCode.seq_out {x y : Code} {tm tm1 : Tm} {h h1 : Heap} {e : Ex} (hx : LCode P N x tm h e tm1 h1) (he : e ≠ .normal) :
    LCode P N (.seq x y) tm h e tm1 h1 := by
  intro base ds ρ a w r
  refine wp_seq (wp_mono (hx base ds ρ a w r) ?_)
  rintro e1 a1 w1 ⟨rfl, ρ1, m1, r1⟩
  cases e with
  | normal => exact absurd rfl he
  | exit id => exact ⟨rfl, ρ1, m1, r1⟩
  | ret => exact ⟨rfl, ρ1, m1, r1⟩

theorem LCode.cond {c : Operand} {x y : Code} {b : Bool} {tm tm1 : Tm} {h h1 : Heap} {e : Ex} (hc : lev tm c = some (.bool b)) (hx : LCode P N (if b then x else y) tm h e tm1 h1) :
    LCode P N (.cond c x y) tm h e tm1 h1 := by
  intro base ds ρ a w r
  have h1 := (r.eval hc).1
  exact wp_cond (t := b) h1 (hx base ds ρ a w r)

theorem LCode.block {id : Nat} {c : Code} {tm tm1 : Tm} {h h1 : Heap} {e : Ex} (hx : LCode P N c tm h e tm1 h1) (he : e ≠ .exit id) :
    LCode P N (.block id c) tm h e tm1 h1 := by
  intro base ds ρ a w r
  refine wp_block (wp_mono (hx base ds ρ a w r) ?_)
  rintro e1 a1 w1 ⟨rfl, ρ1, m1, r1⟩
  cases e with
  | normal => exact ⟨rfl, ρ1, m1, r1⟩
  | ret => exact ⟨rfl, ρ1, m1, r1⟩
  | exit i =>
    have : i ≠ id := fun h => he (by rw [h])
    simp only [Ex.to, Exit.inBlock, this, if_false]
    exact ⟨rfl, ρ1, m1, r1⟩

theorem LCode.block_exit {id : Nat} {c : Code} {tm tm1 : Tm} {h h1 : Heap} (hx : LCode P N c tm h (.exit id) tm1 h1) :
    LCode P N (.block id c) tm h .normal tm1 h1 := by
  intro base ds ρ a w r
  refine wp_block (wp_mono (hx base ds ρ a w r) ?_)
  rintro e1 a1 w1 ⟨rfl, ρ1, m1, r1⟩
  simp only [Ex.to, Exit.inBlock, if_true]
  exact ⟨rfl, ρ1, m1, r1⟩

theorem LCode.region {id : Nat} {ops : Array Oper} {tm tm1 : Tm} {h h1 : Heap} (hx : LOps P N ops (List.range ops.size) tm h tm1 h1) :
    LCode P N (.region id ops false) tm h .normal tm1 h1 := by
  intro base ds ρ a w r
  exact wp_region (hx base ds ρ a w _ r fun ρ' a' w' m r' => ⟨rfl, ρ', m, r'⟩)

/-! ### Operations in a row -/
theorem LOps.nil {ops : Array Oper} {tm : Tm} {h : Heap} : LOps P N ops [] tm h tm h :=
  fun _ _ ρ a w _ r k => k ρ a w (Moves.refl r.inv) r

def undefV : Value := .tuple #[]

def putTm (dst : Option Nat) (v : Value) (tm : Tm) : Tm :=
  match dst with
  | some d => (d, v) :: tm
  | none => tm

def dstOk (N : Nat) (dst : Option Nat) : Bool :=
  match dst with
  | some d => Nat.blt d N
  | none => true

theorem Rel.put {base : Nat} {ds : List Deferred} {h h' : Heap} {ρ ρ' : Rho} {tm : Tm} {a : Act} {w w' : World} (r : Rel base N ds h ρ tm a w) (m : Moves base h ρ w h' ρ' w')
    {dst : Option Nat} (hd : dstOk N dst = true) {v : Value} (hv : wf h' v = true) : Rel base N ds h' ρ' (putTm dst v tm) (a.put dst (tr ρ' v)) w' where
  inv := m.inv
  size := by cases dst <;> simp [Act.put, r.size]
  defers := by cases dst <;> exact r.defers
  tmp := by
    intro t u hu
    have old : ∀ t u, look tm t = some u → a.tmps[t]? = some (tr ρ' u) ∧ wf h' u = true := fun t u hu => by
      obtain ⟨h1, h2⟩ := r.tmp t u hu
      exact ⟨by rw [h1, tr_congr m.ext u h2], wf_mono m.born u h2⟩
    cases dst with
    | none => exact old t u hu
    | some d =>
      simp only [putTm, look] at hu
      cases hdt : Nat.beq d t with
      | true =>
        rw [hdt] at hu
        cases hu
        have e : d = t := Nat.eq_of_beq_eq_true hdt
        subst e
        have hlt : d < a.tmps.size := by rw [r.size]; simpa [dstOk, Nat.blt_eq] using hd
        exact ⟨by simp [Act.put, hlt], hv⟩
      | false =>
        rw [hdt] at hu
        have e : d ≠ t := Nat.ne_of_beq_eq_false hdt
        obtain ⟨h1, h2⟩ := old t u hu
        exact ⟨by simp only [Act.put]; rw [Array.getElem?_setIfInBounds_ne e]; exact h1, h2⟩

/-- Is an operation carried out? -/
def lwanted (ops : Array Oper) (tm : Tm) (o : Oper) : Option Bool :=
  match o.guard with
  | none => some true
  | some (j, want) =>
    match ops[j]? with
    | some g =>
      match g.dst with
      | some d =>
        match look tm d with
        | some (.bool b) => some (bif b then want else !want)
        | some (.tuple _) => some false
        | _ => none
      | none => none
    | none => none

theorem lwanted_ok {ops : Array Oper} {o : Oper} {b : Bool} {base : Nat} {ds : List Deferred} {h : Heap} {ρ : Rho} {tm : Tm} {a : Act} {w : World} (r : Rel base N ds h ρ tm a w)
    (hw : lwanted ops tm o = some b) : Region.wanted o (yielded ops a.tmps) = b := by
  unfold lwanted at hw
  unfold Region.wanted
  cases hg : o.guard with
  | none => rw [hg] at hw; simpa using hw
  | some jw =>
    obtain ⟨j, want⟩ := jw
    rw [hg] at hw
    simp only at hw ⊢
    cases hj : ops[j]? with
    | none => rw [hj] at hw; cases hw
    | some g =>
      rw [hj] at hw
      simp only at hw
      cases hd : g.dst with
      | none => rw [hd] at hw; cases hw
      | some d =>
        rw [hd] at hw
        simp only at hw
        cases hl : look tm d with
        | none => rw [hl] at hw; cases hw
        | some v =>
          rw [hl] at hw
          have h1 := (r.tmp d v hl).1
          unfold yielded
          cases v with
          | bool c =>
            simp only [Option.some.injEq] at hw
            simp only [hj, Option.bind_some, hd, h1]
            cases c <;> cases want <;> simpa [tr, tr2, tr1, tr0] using hw
          | tuple vs =>
            simp only [Option.some.injEq] at hw
            simp only [hj, Option.bind_some, hd, h1]
            simpa [tr] using hw
          | _ => cases hw

theorem LOps.cons {ops : Array Oper} {i : Nat} {l : List Nat} {o : Oper} {tm tm2 : Tm} {h h1 h2 : Heap} {v : Value} (ho : ops[i]? = some o) (hw : lwanted ops tm o = some true)
    (hd : dstOk N o.dst = true) (h1' : OpOK P N o tm h v h1) (h2' : LOps P N ops l (putTm o.dst v tm) h1 tm2 h2) : LOps P N ops (i :: l) tm h tm2 h2 := by
  intro base ds ρ a w Q r k
  simp only [wpOps, ho, lwanted_ok r hw, if_true]
  refine .inl (h1' base ds ρ a w _ Q r fun ρ' w' m hv => ?_)
  exact h2' base ds ρ' _ w' Q (r.put m hd hv) fun ρ2 a2 w2 m2 r2 => k ρ2 a2 w2 (m.trans m2) r2

theorem LOps.off {ops : Array Oper} {i : Nat} {l : List Nat} {o : Oper} {tm tm2 : Tm} {h h2 : Heap} (ho : ops[i]? = some o) (hw : lwanted ops tm o = some false)
    (hd : dstOk N o.dst = true) (h2' : LOps P N ops l (putTm o.dst undefV tm) h tm2 h2) : LOps P N ops (i :: l) tm h tm2 h2 := by
  intro base ds ρ a w Q r k
  simp only [wpOps, ho, lwanted_ok r hw, Bool.false_eq_true, if_false]
  have r1 := r.put (Moves.refl r.inv) hd (v := undefV) (by rfl)
  exact h2' base ds ρ _ w Q r1 k

end

/-! ### Loops -/
inductive LRounds (P : Program) (N : Nat) (c : Code) : Tm → Heap → Ex → Tm → Heap → Prop where
  | out {tm tm1 : Tm} {h h1 : Heap} {e : Ex} (hx : LCode P N c tm h e tm1 h1) (he : e ≠ .normal) : LRounds P N c tm h e tm1 h1
  | next {tm tm1 tm2 : Tm} {h h1 h2 : Heap} {e : Ex} (hx : LCode P N c tm h .normal tm1 h1) (hr : LRounds P N c tm1 h1 e tm2 h2) : LRounds P N c tm h e tm2 h2

theorem LRounds.loop {P : Program} {N : Nat} {c : Code} {tm tm1 : Tm} {h h1 : Heap} {e : Ex} (hr : LRounds P N c tm h e tm1 h1) : LCode P N (.loop c) tm h e tm1 h1 := by
  have key : ∃ n, ∀ base ds h0 ρ0 w0 ρ a w, Moves base h0 ρ0 w0 h ρ w → Rel base N ds h ρ tm a w → Code.rounds P c (LPost base N ds h0 ρ0 w0 e tm1 h1) n a w := by
    induction hr with
    | out hx he =>
      rename_i e
      refine ⟨1, fun base ds h0 ρ0 w0 ρ a w m r => wp_mono (hx base ds ρ a w r) ?_⟩
      rintro e1 a1 w1 ⟨rfl, ρ1, m1, r1⟩
      cases e with
      | normal => exact absurd rfl he
      | exit id => exact ⟨rfl, ρ1, m.trans m1, r1⟩
      | ret => exact ⟨rfl, ρ1, m.trans m1, r1⟩
    | next hx hr ih =>
      obtain ⟨n, hn⟩ := ih
      refine ⟨n + 1, fun base ds h0 ρ0 w0 ρ a w m r => wp_mono (hx base ds ρ a w r) ?_⟩
      rintro e1 a1 w1 ⟨rfl, ρ1, m1, r1⟩
      exact hn base ds h0 ρ0 w0 ρ1 a1 w1 (m.trans m1) r1
  intro base ds ρ a w r
  obtain ⟨n, hn⟩ := key
  exact wp_loop_rounds n (hn base ds h ρ w ρ a w (Moves.refl r.inv) r)

/-! ### What is no longer wanted is let go -/
def WfHeap (h : Heap) : Prop := ∀ (i : Nat) (b : Blk), h[i]? = some (Sl.live b) → ∀ v ∈ b.vals, wf1 h v = true

theorem born_take {h : Heap} {n i : Nat} (hi : isBorn (h.take n) i = true) : isBorn h i = true ∧ i < n := by
  have hl := born_lt hi
  have hn : i < n := by rw [List.length_take] at hl; omega
  unfold isBorn at hi ⊢
  rw [List.getElem?_take_of_lt hn] at hi
  exact ⟨hi, hn⟩

theorem take_born {h : Heap} {n i : Nat} (hi : isBorn h i = true) (hn : i < n) : isBorn (h.take n) i = true := by
  unfold isBorn at hi ⊢
  rw [List.getElem?_take_of_lt hn]
  exact hi

theorem live_take {h : Heap} {n i : Nat} {b : Blk} (hi : (h.take n)[i]? = some (Sl.live b)) : h[i]? = some (Sl.live b) ∧ i < n := by
  have hn := (born_take (born_live hi)).2
  rw [List.getElem?_take_of_lt hn] at hi
  exact ⟨hi, hn⟩

theorem Moves.drop {base : Nat} {h h1 : Heap} {ρ ρ1 : Rho} {w w1 : World} (m : Moves base h ρ w h1 ρ1 w1) (n : Nat) (hn : h.length ≤ n) (hw : WfHeap (h1.take n)) :
    Moves base h ρ w (h1.take n) (ρ1.take n) w1 where
  born := fun i hi => take_born (m.born i hi) (Nat.lt_of_lt_of_le (born_lt hi) hn)
  ext := fun i hi => by rw [List.getElem?_take_of_lt (Nat.lt_of_lt_of_le (born_lt hi) hn)]; exact m.ext i hi
  inv :=
    { len := by rw [List.length_take, List.length_take, m.inv.len]
      base_le := m.inv.base_le
      blk := fun i b hi => by
        obtain ⟨hi', hin⟩ := live_take hi
        obtain ⟨l, hl, _, hb⟩ := m.inv.blk i b hi'
        refine ⟨l, by rw [List.getElem?_take_of_lt hin]; exact hl, hw i b hi, ?_⟩
        have e : ∀ v ∈ b.vals, tr1 (ρ1.take n) v = tr1 ρ1 v := fun v hv =>
          tr1_congr (fun i hi => List.getElem?_take_of_lt (born_take hi).2) v (hw i b hi v hv)
        have mem : ∀ (j : Nat) (v : Value), b.vals[j]? = some v → v ∈ b.vals := fun j v h => List.mem_of_getElem? h
        rcases hb with hb | ⟨h1, h2, h3, cs, e1, fr, h4, h5, h6, h7⟩ | ⟨h1, h2, h3, h4⟩
        · exact .inl hb
        · exact .inr (.inl ⟨h1, h2, h3, cs, e1, fr, h4, h5, h6, fun j v hj => by rw [e v (mem j v hj)]; exact h7 j v hj⟩)
        · exact .inr (.inr ⟨h1, h2, h3, fun j v hj => by rw [e v (mem j v hj)]; exact h4 j v hj⟩)
      apart := fun i j bi bj li lj hij hi hj oi oj ri rj ni nj => by
        obtain ⟨hi', hin⟩ := live_take hi
        obtain ⟨hj', hjn⟩ := live_take hj
        rw [List.getElem?_take_of_lt hin] at ri
        rw [List.getElem?_take_of_lt hjn] at rj
        exact m.inv.apart i j bi bj li lj hij hi' hj' oi oj ri rj ni nj }
  os := m.os
  tape := m.tape
  output := m.output
  size := m.size
  keep := m.keep
  new := fun k ⟨i, b, l, hi, ho, hr, hnl, hk⟩ => by
    obtain ⟨hi', hin⟩ := live_take hi
    rw [List.getElem?_take_of_lt hin] at hr
    exact m.new k ⟨i, b, l, hi', ho, hr, hnl, hk⟩
  grow := fun i b' hi hb => m.grow i b' (live_take hi).1 hb
  len := by rw [List.length_take]; have := m.len; omega

theorem tr_take {h1 : Heap} {ρ1 : Rho} {n : Nat} {v : Value} (hv : wf (h1.take n) v = true) : tr (ρ1.take n) v = tr ρ1 v :=
  tr_congr (fun _ hi => List.getElem?_take_of_lt (born_take hi).2) v hv

/-- Slots that are kept. -/
def keepTm (tm : Tm) : List Nat → Option Tm
  | [] => some []
  | t :: l =>
    match look tm t, keepTm tm l with
    | some v, some r => some ((t, v) :: r)
    | _, _ => none

theorem keepTm_look {tm : Tm} : ∀ {l : List Nat} {r : Tm}, keepTm tm l = some r → ∀ t v, look r t = some v → look tm t = some v
  | [], r, h, t, v, hv => by cases h; cases hv
  | u :: l, r, h, t, v, hv => by
    unfold keepTm at h
    cases h1 : look tm u with
    | none => rw [h1] at h; cases h
    | some x =>
      rw [h1] at h
      cases h2 : keepTm tm l with
      | none => rw [h2] at h; cases h
      | some s =>
        rw [h2] at h
        cases h
        unfold look at hv
        cases hb : Nat.beq u t with
        | true => rw [hb] at hv; cases hv; rw [← Nat.eq_of_beq_eq_true hb]; exact h1
        | false => rw [hb] at hv; exact keepTm_look h2 t v hv

def wfTm (h : Heap) (tm : Tm) : Bool := tm.all fun x => wf h x.2

theorem wfTm_look {h : Heap} : ∀ {tm : Tm}, wfTm h tm = true → ∀ t v, look tm t = some v → wf h v = true
  | [], _, _, _, hv => by cases hv
  | (u, x) :: l, hw, t, v, hv => by
    simp only [wfTm, List.all_cons, Bool.and_eq_true] at hw
    unfold look at hv
    cases hb : Nat.beq u t with
    | true => rw [hb] at hv; cases hv; exact hw.1
    | false => rw [hb] at hv; exact wfTm_look (tm := l) hw.2 t v hv

theorem LCode.weaken {P : Program} {N : Nat} {c : Code} {tm tm1 tm2 : Tm} {h h1 : Heap} {e : Ex} (hc : LCode P N c tm h e tm1 h1) (n : Nat) (hn : h.length ≤ n)
    (hsub : ∀ t v, look tm2 t = some v → look tm1 t = some v) (hwf : wfTm (h1.take n) tm2 = true) (hw : WfHeap (h1.take n)) : LCode P N c tm h e tm2 (h1.take n) := by
  intro base ds ρ a w r
  refine wp_mono (hc base ds ρ a w r) ?_
  rintro e1 a1 w1 ⟨he, ρ1, m1, r1⟩
  have m2 := m1.drop n hn hw
  refine ⟨he, ρ1.take n, m2, ⟨m2.inv, r1.size, r1.defers, fun t v hv => ?_⟩⟩
  have hv2 := wfTm_look hwf t v hv
  exact ⟨by rw [(r1.tmp t v (hsub t v hv)).1, tr_take hv2], hv2⟩

/-- The slots at hand may be fewer at the beginning. -/
theorem LCode.less {P : Program} {N : Nat} {c : Code} {tm tm0 tm1 : Tm} {h h1 : Heap} {e : Ex} (hc : LCode P N c tm0 h e tm1 h1)
    (hsub : ∀ t v, look tm0 t = some v → look tm t = some v) : LCode P N c tm h e tm1 h1 :=
  fun base ds ρ a w r => hc base ds ρ a w ⟨r.inv, r.size, r.defers, fun t v hv => r.tmp t v (hsub t v hv)⟩

end Go.LE
