import Derived.Test.YtlakggidkijcnaaLeB
import Derived.Laws.Small
import Derived.Laws.Entries
import Derived.Laws.StructEq
import Derived.Laws.Pointers
set_option linter.all false
/- Operations that leave the memory as it is. -/
namespace Go.LE
open Go

def szOf (P : Program) (t : TypeId) : Option Nat :=
  match P.info? t with
  | some i => some i.size
  | none => none

def zeroOf (P : Program) (t : TypeId) : Option Value :=
  match P.info? t with
  | some i =>
    match i.zero with
    | some z => bif wf2 [] z then some z else none
    | none => none
  | none => none

def aggOf (P : Program) (t : TypeId) : Option Bool :=
  match P.underlying t with
  | some (.struct _) => some true
  | some (.array _ _) => some true
  | some _ => some false
  | none => none

section
variable {P : Program} {w : World}

theorem run_sizeOf' {t : TypeId} {n : Nat} (h : szOf P t = some n) (w : World) : (sizeOf t).run P w = .ok n w := by
  unfold szOf at h
  cases hi : P.info? t with
  | none => rw [hi] at h; cases h
  | some i => rw [hi] at h; cases h; simp [sizeOf, typeInfo, hi]

theorem run_zeroValue' {t : TypeId} {z : Value} (h : zeroOf P t = some z) (w : World) : (zeroValue t).run P w = .ok z w ∧ wf2 [] z = true := by
  unfold zeroOf at h
  cases hi : P.info? t with
  | none => rw [hi] at h; cases h
  | some i =>
    rw [hi] at h
    simp only at h
    cases hz : i.zero with
    | none => rw [hz] at h; cases h
    | some x =>
      rw [hz] at h
      simp only at h
      cases hw : wf2 [] x with
      | false => rw [hw] at h; cases h
      | true => rw [hw] at h; cases h; exact ⟨by simp [zeroValue, typeInfo, hi, hz], hw⟩

theorem run_isAgg' {t : TypeId} {b : Bool} (h : aggOf P t = some b) (w : World) : (isAgg t).run P w = .ok b w := by
  unfold aggOf at h
  unfold isAgg
  cases hu : P.underlying t with
  | none => rw [hu] at h; cases h
  | some d =>
    simp only [Sem.run_bind, run_underlying hu, Result.andThen_ok]
    rw [hu] at h
    cases d <;> cases h <;> rfl

theorem run_mapM_list {α β : Type} (f : α → Sem β) (g : α → β) : ∀ (l : List α), (∀ x ∈ l, ∀ w, (f x).run P w = .ok (g x) w) → ∀ w, (l.mapM f).run P w = .ok (l.map g) w
  | [], _, w => by simp
  | x :: l, h, w => by
    simp only [List.mapM_cons, Sem.run_bind, h x (by simp) w, Result.andThen_ok, run_mapM_list f g l (fun y hy => h y (by simp [hy])) w, Sem.run_pure, List.map_cons]

theorem run_mapM_array {α β : Type} (f : α → Sem β) (g : α → β) (l : Array α) (h : ∀ x ∈ l.toList, ∀ w, (f x).run P w = .ok (g x) w) (w : World) : (l.mapM f).run P w = .ok ⟨l.toList.map g⟩ w := by
  rw [Array.mapM_eq_mapM_toList]
  simp only [Sem.run_map, run_mapM_list f g l.toList h w, Result.andThen_ok]

end

/-- A value's cells. -/
def lcells : Value → List Value
  | .agg cs => cs.toList
  | v => [v]

theorem cells_tr {h : Heap} {ρ : Rho} {v : Value} (hv : wf2 h v = true) : (tr ρ v).cells = ⟨(lcells v).map (tr1 ρ)⟩ := by
  rw [tr_of_wf2 hv]
  cases v with
  | agg cs => rfl
  | tuple vs => simp [wf2, wf1, wf0] at hv
  | func fn f c => rfl
  | iface t v => rfl
  | pointer a =>
    cases a with
    | none => rfl
    | some a =>
      simp only [tr2, tr1, lcells, List.map_cons, List.map_nil, tr0]
      split <;> rfl
  | slice a n c =>
    cases a with
    | none => rfl
    | some a =>
      simp only [tr2, tr1, lcells, List.map_cons, List.map_nil, tr0]
      split
      · split <;> rfl
      · rfl
  | _ => rfl

theorem wf1_lcells {h : Heap} {v : Value} (hv : wf2 h v = true) : ∀ x ∈ lcells v, wf1 h x = true := by
  cases v with
  | agg cs => exact fun x hx => List.all_eq_true.1 hv x hx
  | _ => intro x hx; rw [List.mem_singleton.1 hx]; exact hv

/-! ### whole numbers -/
def lshift (op : BinOp) (k : IntKind) (a b : Int) : Option Value :=
  match op with
  | .shl => some (.int k (k.wrap (a * 2 ^ (min b.toNat k.bits))))
  | .shr => some (.int k (a.fdiv (2 ^ (min b.toNat k.bits))))
  | _ => none

def lint (op : BinOp) (k : IntKind) (a b : Int) : Option Value :=
  match op with
  | .add => some (.int k (k.wrap (a + b)))
  | .sub => some (.int k (k.wrap (a - b)))
  | .mul => some (.int k (k.wrap (a * b)))
  | .and => some (.int k (bits .and k a b))
  | .or => some (.int k (bits .or k a b))
  | .xor => some (.int k (bits .xor k a b))
  | .andNot => some (.int k (bits .andNot k a b))
  | .eql => some (.bool (a == b))
  | .neq => some (.bool (a != b))
  | .lss => some (.bool (decide (a < b)))
  | .leq => some (.bool (decide (a ≤ b)))
  | .gtr => some (.bool (decide (a > b)))
  | .geq => some (.bool (decide (a ≥ b)))
  | _ => none

def ldiv (op : BinOp) (k : IntKind) (a b : Int) : Option Value :=
  match op with
  | .quo => some (.int k (k.wrap (a.tdiv b)))
  | .rem => some (.int k (a.tmod b))
  | _ => none

def isShift : BinOp → Bool
  | .shl => true
  | .shr => true
  | _ => false
def isDiv : BinOp → Bool
  | .quo => true
  | .rem => true
  | _ => false

/-- A side condition: asked for as it stands, or decided at once. -/
def side {α : Type} (sd : Bool) (p : Prop) [Decidable p] (r : Option α) : Option (α × List Prop) :=
  match r with
  | none => none
  | some x => bif sd then some (x, [p]) else bif decide p then some (x, []) else none

def All : List Prop → Prop
  | [] => True
  | p :: l => p ∧ All l

theorem side_spec {α : Type} {sd : Bool} {p : Prop} [Decidable p] {r : Option α} {x : α} {l : List Prop} (h : side sd p r = some (x, l)) (hl : All l) : r = some x ∧ p := by
  unfold side at h
  cases r with
  | none => cases h
  | some y =>
    cases sd with
    | true => cases h; exact ⟨rfl, hl.1⟩
    | false =>
      simp only [cond_false] at h
      cases hp : decide p with
      | false => rw [hp] at h; cases h
      | true => rw [hp] at h; cases h; exact ⟨rfl, of_decide_eq_true hp⟩

/-! ### parts of a value -/
def sub (l : List Value) (o s : Nat) : List Value := (l.drop o).take s

def lpart (P : Program) (t : TypeId) (xs : List Value) (o : Nat) : Option Value :=
  match aggOf P t with
  | some true =>
    match szOf P t with
    | some s => some (.agg ⟨sub xs o s⟩)
    | none => none
  | some false => xs[o]?
  | none => none

theorem extract_map {ρ : Rho} (xs : List Value) (o s : Nat) : ((⟨xs.map (tr1 ρ)⟩ : Array Value).extract o (o + s)) = ⟨(sub xs o s).map (tr1 ρ)⟩ := by
  apply Array.ext'
  rw [Array.toList_extract]
  simp [sub, List.map_take, List.map_drop]

theorem run_part {P : Program} {h : Heap} {ρ : Rho} {t : TypeId} {xs : List Value} {o : Nat} {v : Value} (hp : lpart P t xs o = some v) (hx : ∀ x ∈ xs, wf1 h x = true) (w : World) :
    (part t ⟨xs.map (tr1 ρ)⟩ o).run P w = .ok (tr ρ v) w ∧ wf2 h v = true := by
  unfold lpart at hp
  unfold part
  cases ha : aggOf P t with
  | none => rw [ha] at hp; cases hp
  | some b =>
    rw [ha] at hp
    cases b with
    | true =>
      simp only at hp
      cases hs : szOf P t with
      | none => rw [hs] at hp; cases hp
      | some s =>
        rw [hs] at hp
        cases hp
        have hw : wf2 h (.agg ⟨sub xs o s⟩) = true := List.all_eq_true.2 fun x hx' => hx x (List.mem_of_mem_drop (List.mem_of_mem_take hx'))
        refine ⟨?_, hw⟩
        simp only [Sem.run_bind, run_isAgg' ha, Result.andThen_ok, if_true, run_sizeOf' hs, Sem.run_pure, extract_map]
        rw [tr_of_wf2 hw]
        rfl
    | false =>
      simp only at hp
      have hm := List.mem_of_getElem? hp
      have h1 := hx v hm
      refine ⟨?_, wf2_of_wf1 h1⟩
      have e : (⟨xs.map (tr1 ρ)⟩ : Array Value)[o]? = some (tr1 ρ v) := by simp [hp]
      simp only [Sem.run_bind, run_isAgg' ha, Result.andThen_ok, Bool.false_eq_true, if_false, e, Sem.run_pure]
      rw [tr_of_wf1 h1]

/-! ### '==' of structs -/
def lfieldsEq (P : Program) (eq : TypeId → Value → Value → Option Bool) (xs ys : List Value) : List Field → Option Bool
  | [] => some true
  | f :: fs =>
    bif f.name == "_" then none else
    match lpart P f.type xs f.offset, lpart P f.type ys f.offset with
    | some a, some b =>
      match eq f.type a b, lfieldsEq P eq xs ys fs with
      | some r, some s => some (r && s)
      | _, _ => none
    | _, _ => none

def lcellsEq (P : Program) : Nat → TypeId → Value → Value → Option Bool
  | 0, _, _, _ => none
  | n + 1, t, x, y =>
    match P.underlying t with
    | some .bool => match x, y with | .bool a, .bool b => some (a == b) | _, _ => none
    | some (.int _) => match x, y with | .int k a, .int k' b => bif decide (k = k') then some (a == b) else none | _, _ => none
    | some .string => match x, y with | .string a, .string b => some (a.toList == b.toList) | _, _ => none
    | some (.struct fs) =>
      match x, y with
      | .agg xs, .agg ys => bif P.stoodInHeld t then none else lfieldsEq P (lcellsEq P n) xs.toList ys.toList fs.toList
      | _, _ => none
    | _ => none

theorem run_fieldsEq {P : Program} {h : Heap} {ρ : Rho} {eq : TypeId → Value → Value → Option Bool} {d : Nat}
    (heq : ∀ t x y b, wf2 h x = true → wf2 h y = true → eq t x y = some b → ∀ w, (Op.equalIn d t (tr ρ x) (tr ρ y)).run P w = .ok b w) (xs ys : List Value) (hx : ∀ x ∈ xs, wf1 h x = true) (hy : ∀ x ∈ ys, wf1 h x = true) :
    ∀ (fs : List Field) (b : Bool), lfieldsEq P eq xs ys fs = some b → ∀ w, (Op.eqFields d ⟨xs.map (tr1 ρ)⟩ ⟨ys.map (tr1 ρ)⟩ fs).run P w = .ok b w
  | [], b, hb, w => by cases hb; simp [Op.eqFields]
  | f :: fs, b, hb, w => by
    unfold lfieldsEq at hb
    cases hn : f.name == "_" with
    | true => rw [hn] at hb; cases hb
    | false =>
      rw [hn] at hb
      simp only [cond_false] at hb
      cases h1 : lpart P f.type xs f.offset with
      | none => rw [h1] at hb; cases hb
      | some u =>
        cases h2 : lpart P f.type ys f.offset with
        | none => rw [h1, h2] at hb; cases hb
        | some v =>
          rw [h1, h2] at hb
          simp only at hb
          cases h3 : eq f.type u v with
          | none => rw [h3] at hb; cases hb
          | some r =>
            cases h4 : lfieldsEq P eq xs ys fs with
            | none => rw [h3, h4] at hb; cases hb
            | some s =>
              rw [h3, h4] at hb
              cases hb
              obtain ⟨p1, q1⟩ := run_part (ρ := ρ) h1 hx w
              obtain ⟨p2, q2⟩ := run_part (ρ := ρ) h2 hy w
              have p3 := heq f.type u v r q1 q2 h3 w
              have p4 := run_fieldsEq heq xs ys hx hy fs s h4 w
              have hn' : f.name ≠ "_" := by simpa using hn
              rw [Op.eqFields]
              simp only [if_pos hn', Sem.run_bind, p1, p2, p3, Result.andThen_ok]
              cases r
              · simp
              · simpa using p4

theorem run_cellsEq {P : Program} {h : Heap} {ρ : Rho} : ∀ (n d : Nat), n ≤ d → ∀ (t : TypeId) (x y : Value) (b : Bool), wf2 h x = true → wf2 h y = true → lcellsEq P n t x y = some b →
    ∀ w, (Op.equalIn d t (tr ρ x) (tr ρ y)).run P w = .ok b w
  | 0, _, _, _, _, _, _, _, _, hb, _ => by cases hb
  | n + 1, 0, hnd, _, _, _, _, _, _, _, _ => by omega
  | n + 1, d + 1, hnd, t, x, y, b, hx, hy, hb, w => by
    have ih := run_cellsEq (P := P) (h := h) (ρ := ρ) n d (by omega)
    unfold lcellsEq at hb
    cases hu : P.underlying t with
    | none => rw [hu] at hb; cases hb
    | some dd =>
      rw [hu] at hb
      cases dd with
      | bool =>
        cases x <;> cases y <;> first | (cases hb; done) | skip
        cases hb
        exact run_equalIn_bool w d t _ _ hu
      | int k0 =>
        cases x <;> cases y <;> first | (cases hb; done) | skip
        rename_i k a k' b'
        simp only at hb
        cases hk : decide (k = k') with
        | false => rw [hk] at hb; cases hb
        | true =>
          rw [hk] at hb
          cases hb
          have := of_decide_eq_true hk
          subst this
          exact run_equalIn_int w d t k k0 _ _ hu
      | string =>
        cases x <;> cases y <;> first | (cases hb; done) | skip
        cases hb
        exact run_equalIn_string w d t _ _ hu
      | struct fs =>
        cases x <;> cases y <;> first | (cases hb; done) | skip
        rename_i xs ys
        simp only at hb
        cases hs : P.stoodInHeld t with
        | true => rw [hs] at hb; cases hb
        | false =>
          rw [hs] at hb
          simp only [cond_false] at hb
          have hf : P.fieldsOf t = fs := by simp [Program.fieldsOf, hu]
          have e := run_equalIn_struct (P := P) w d t ⟨xs.toList.map (tr1 ρ)⟩ ⟨ys.toList.map (tr1 ρ)⟩ (by rw [hf]; exact hu) hs
          rw [hf] at e
          have := run_fieldsEq (P := P) (h := h) (ρ := ρ) (eq := lcellsEq P n) (d := d) (fun t x y b hx hy he w => ih t x y b hx hy he w) xs.toList ys.toList
            (fun z hz => List.all_eq_true.1 hx z hz) (fun z hz => List.all_eq_true.1 hy z hz) fs.toList b hb w
          rw [this] at e
          exact e
      | _ => cases hb

/-! ### two operands -/
/-- Is a slice's value surely not nil: its row has a cell. -/
def lnil (h : Heap) : Value → Option Bool
  | .slice none _ _ => some true
  | .slice (some ⟨i, _, _⟩) _ _ =>
    match h[i]? with
    | some (.live ⟨_ :: _, _, _⟩) => some false
    | _ => none
  | .pointer none => some true
  | .pointer (some _) => some false
  | .nilFunc => some true
  | .func _ _ _ => some false
  | _ => none

def lbin (P : Program) (h : Heap) (sd : Bool) (op : BinOp) (t : TypeId) (x y : Value) : Option (Value × List Prop) :=
  match x with
  | .int k a =>
    match y with
    | .int k' b =>
      bif isShift op then side sd (0 ≤ b) (lshift op k a b)
      else bif decide (k = k') then (bif isDiv op then side sd (b ≠ 0) (ldiv op k a b) else match lint op k a b with | some v => some (v, []) | none => none)
      else none
    | _ => none
  | .bool a =>
    match y with
    | .bool b =>
      match P.underlying t, op with
      | some .bool, .eql => some (.bool (a == b), [])
      | some .bool, .neq => some (.bool (!(a == b)), [])
      | _, _ => none
    | _ => none
  | .string a =>
    match y with
    | .string b =>
      match op with
      | .add => side sd (((a.size + b.size : Nat) : Int) ≤ 9223372036854775807) (some (.string (a ++ b)))
      | .eql => some (.bool (a.toList == b.toList), [])
      | .neq => some (.bool !(a.toList == b.toList), [])
      | .lss => some (.bool (Op.bytesLess a.toList b.toList), [])
      | _ => none
    | _ => none
  | .agg xs =>
    match y with
    | .agg ys =>
      bif P.eqGuardType P.depth t then none else
      match lcellsEq P 20 t (.agg xs) (.agg ys), op with
      | some r, .eql => some (.bool r, [])
      | some r, .neq => some (.bool !r, [])
      | _, _ => none
    | _ => none
  | .slice a n c =>
    match y with
    | .slice none _ _ =>
      match P.underlying t, lnil h (.slice a n c), op with
      | some (.slice _), some r, .eql => some (.bool r, [])
      | some (.slice _), some r, .neq => some (.bool !r, [])
      | _, _, _ => none
    | _ => none
  | .pointer a =>
    match y with
    | .pointer none =>
      match P.underlying t, lnil h (.pointer a), op with
      | some (.pointer _), some r, .eql => some (.bool r, [])
      | some (.pointer _), some r, .neq => some (.bool !r, [])
      | _, _, _ => none
    | _ => none
  | _ => none

theorem eqGuard_int {op : BinOp} {t : TypeId} {x y : Operand} {k : IntKind} {n : Int} {v : Value} : eqGuard op t x y (.int k n) v = pure () := by cases op <;> rfl

theorem run_lint {P : Program} {op : BinOp} {t : TypeId} {k : IntKind} {a b : Int} {v : Value} (h : lint op k a b = some v) (hs : isShift op = false) (hd : isDiv op = false) (w : World) :
    (Go.binOp op t (.int k a) (.int k b)).run P w = .ok v w := by
  cases op <;> first | (cases hs; done) | (cases hd; done) | (cases h; simp [binOp, Op.intArith, Op.intBits, Op.intCmp, bits]; done)

theorem run_ldiv {P : Program} {op : BinOp} {t : TypeId} {k : IntKind} {a b : Int} {v : Value} (h : ldiv op k a b = some v) (hb : b ≠ 0) (w : World) :
    (Go.binOp op t (.int k a) (.int k b)).run P w = .ok v w := by
  cases op <;> first | (cases h; done) | (cases h; simp [binOp, Op.intDiv, hb]; done)

theorem run_lshift {P : Program} {op : BinOp} {t : TypeId} {k k' : IntKind} {a b : Int} {v : Value} (h : lshift op k a b = some v) (hb : 0 ≤ b) (w : World) :
    (Go.binOp op t (.int k a) (.int k' b)).run P w = .ok v w := by
  have hb' : ¬ b < 0 := by omega
  cases op <;> first | (cases h; done) | (cases h; simp [binOp, Op.shift, hb']; done)

end Go.LE
