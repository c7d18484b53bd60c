import Derived.Test.YtlakggidkijcnaaLeY
import Derived.ProofKit
import Derived.Deep.Slices
set_option linter.all false
/- From a contract to a law's row. -/
namespace Go.LE
open Go Go.ChangeShapes Go.WideShapes Go.ChangeAt Go.RowKit

variable {P : Program}

theorem Moves.below {base : Nat} {h h' : Heap} {ρ ρ' : Rho} {w w' : World} (m : Moves base h ρ w h' ρ' w') (ho : ∀ k, ¬ Owns h ρ k) : Below w.heap.size w w' :=
  ⟨m.os, m.tape, m.output, m.size, fun k hk => m.keep k hk (ho k)⟩

/-- A call without memory of its own. -/
theorem calls_plain {f : Nat} {as : List Value} {b : Bool} {h' : Heap} (h : LCalls P f as [] (.bool b) h') (hw : as.all (wf []) = true) (W : World) :
    Calls P f ⟨as⟩ W fun e W' => e = .returned (.bool b) ∧ Below W.heap.size W W' := by
  have hi : Inv W.heap.size [] [] W := { len := rfl, base_le := Nat.le_refl _, blk := fun i b h => by simp at h, apart := fun i j bi bj li lj _ h => by simp at h }
  have h1 := h W.heap.size [] W hi (fun x hx => List.all_eq_true.1 hw x hx)
  rw [map_id_all (fun v => tr_closed v) as hw] at h1
  refine Calls.mono h1 ?_
  rintro e W' ⟨ρ', m, _, rfl⟩
  exact ⟨rfl, m.below fun k ⟨i, b, l, h1, _⟩ => by simp at h1⟩

theorem trodAll_stays {H : Type} {enc : TypeId × Value → H} (hl : laidOutB P = true) {W W' : World} (hb : Below W.heap.size W W') : ∀ {ts : List TypeId} {vs : List Value} {ds : List (DataW H)} {ps : List MemPlace},
    ts.all (fun t => P.readableRec t && decide (t < P.types.size)) = true → DataW.TrodAll enc P W 0 (fun _ => true) true ts vs ds ps → (∀ x ∈ ps, x.block < W.heap.size) →
    DataW.TrodAll enc P W' 0 (fun b => decide (b < W.heap.size)) true ts vs ds ps
  | [], [], [], _, _, h, _ => h
  | t :: ts, v :: vs, d :: ds, ps, ht, ⟨p, q, h1, h2, e⟩, hs => by
    simp only [List.all_cons, Bool.and_eq_true, decide_eq_true_eq] at ht
    exact ⟨p, q, Below.trod hl ht.1.1 ht.1.2 h1 hb (fun x hx => hs x (by rw [e]; exact List.mem_append_left _ hx)), trodAll_stays hl hb ht.2 h2 (fun x hx => hs x (by rw [e]; exact List.mem_append_right _ hx)), e⟩

theorem law_contract {H : Type} {enc : TypeId × Value → H} {fn : Func} {s : ChangeSpec} {fid tb : Nat} (laid : laidOutB P = true) (hts : fn.params.toList.all (fun t => P.readableRec t && decide (t < P.types.size)) = true)
    (hres : fn.resultTypes = #[tb]) (htb : P.underlying tb = some .bool) (hvars : s.vars = [])
    (hfn : ∀ ds : List (DataW H), ds.length = fn.params.toList.length → (s.fn H ds).results = [.lit (.bool true)] ∧ (s.fn H ds).args = ds ∧ (s.fn H ds).vars = [])
    (hc : ∀ (W : World) (base : Nat) (args : Array Value) (ds : List (DataW H)) (p : List MemPlace), (∀ (j : Nat) t v, fn.params[j]? = some t → args[j]? = some v → Value.okWide P W .any base t v) →
      DataW.TrodAll enc P W 0 (fun _ => true) true fn.params.toList args.toList ds p → (∀ x ∈ p, x.block < W.heap.size) → Calls P fid args W fun e W' => e = .returned (.bool true) ∧ Below W.heap.size W W')
    (W : World) (base : Nat) (args : Array Value) (ds gs : List (DataW H)) (before : List MemPlace)
    (hval : ∀ (j : Nat) t v, fn.params[j]? = some t → args[j]? = some v → Value.okWide P W .any base t v) (hW : DataW.Whole enc P fn.params.toList s.vars false W args.toList ds gs before) :
    Calls P fid args W fun e W' => ∃ v, e = .returned v ∧ s.post enc P fn false true false false W args v W' := by
  have hW' := hW
  obtain ⟨p, q, hA, hV, rfl, hfz, hnd⟩ := hW
  rw [hvars] at hV
  obtain ⟨rfl, rfl⟩ := trodVars_none hV
  have hlt : ∀ x ∈ p, x.block < W.heap.size := fun x hx => hW'.lt x (List.mem_append_left _ hx)
  have len : ∀ {ts : List TypeId} {vs : List Value} {ds : List (DataW H)} {ps : List MemPlace}, DataW.TrodAll enc P W 0 (fun _ => true) true ts vs ds ps → ds.length = ts.length := by
    intro ts
    induction ts with
    | nil => intro vs ds ps h; cases vs <;> cases ds <;> first | rfl | exact h.elim
    | cons t ts ih =>
      intro vs ds ps h
      cases vs <;> cases ds <;> first | exact h.elim | skip
      obtain ⟨p, q, _, h2, _⟩ := h
      simp only [List.length_cons, ih h2]
  obtain ⟨f1, f2, f3⟩ := hfn ds (len hA)
  refine Calls.mono (hc W base args ds p hval hA hlt) ?_
  rintro e W' ⟨rfl, hb⟩
  refine ⟨_, rfl, ds, [], p ++ [], [], p, [], hW', ?_, ?_, ?_, hb.frame _, fun h => by cases h⟩
  · rw [List.append_nil, f1, hres]
    exact trodAll_mk1 (shut_bool htb true)
  · rw [List.append_nil, f2]
    exact trodAll_stays laid hb hts hA hlt
  · rw [List.append_nil, f3, hvars]
    exact rfl

/-! ### arguments that are structures of numbers -/
/-- The leaves of a type, in their order. -/
def lvs (P : Program) : Nat → TypeId → Option (List (Option IntKind))
  | 0, _ => none
  | n + 1, t =>
    match P.underlying t with
    | some .bool => some [none]
    | some (.int k) => some [some k]
    | some (.struct fs) => fs.toList.foldl (fun a f => match a, lvs P n f.type with | some l, some m => bif Nat.beq f.offset l.length && Nat.beq (P.cellsOf f.type) m.length then some (l ++ m) else none | _, _ => none) (some [])
    | _ => none

def AllLv : List (Option IntKind) → List Value → Prop
  | [], [] => True
  | none :: ks, v :: vs => (∃ b, v = .bool b) ∧ AllLv ks vs
  | some k :: ks, v :: vs => (∃ n, v = .int k n ∧ (Lit.int k n).wf = true) ∧ AllLv ks vs
  | _, _ => False

theorem AllLv.len : ∀ {ks : List (Option IntKind)} {vs : List Value}, AllLv ks vs → vs.length = ks.length
  | [], [], _ => rfl
  | none :: _, _ :: _, h => by simp only [List.length_cons, AllLv.len h.2]
  | some _ :: _, _ :: _, h => by simp only [List.length_cons, AllLv.len h.2]

theorem AllLv.app : ∀ {ks ls : List (Option IntKind)} {vs us : List Value}, AllLv ks vs → AllLv ls us → AllLv (ks ++ ls) (vs ++ us)
  | [], _, [], _, _, h => h
  | none :: _, _, _ :: _, _, h, h' => ⟨h.1, AllLv.app h.2 h'⟩
  | some _ :: _, _, _ :: _, _, h, h' => ⟨h.1, AllLv.app h.2 h'⟩

section
variable {H : Type} {enc : TypeId × Value → H} {W : World} {base : Nat} {sp : Nat → Bool} {held : Bool}

theorem lvs_ok : ∀ (n : Nat) {t : TypeId} {ks : List (Option IntKind)}, lvs P n t = some ks → ∀ {fuel : Nat} {cs : List Value} {x : DataW H × List MemPlace}, DataW.trod enc P W base sp held fuel t cs = some x → cs.length = ks.length → AllLv ks cs
  | 0, _, _, h, _, _, _, _, _ => by cases h
  | n + 1, t, ks, h, fuel, cs, x, hx, hl => by
    unfold lvs at h
    cases fuel with
    | zero => cases hx
    | succ fuel =>
      cases hu : P.underlying t with
      | none => rw [hu] at h; cases h
      | some d =>
        rw [hu] at h
        cases d <;> first | (cases h; done) | skip
        case bool =>
          cases h
          match cs, hl with
          | [v], _ =>
            unfold DataW.trod at hx
            rw [hu] at hx
            cases v <;> first | (cases hx; done) | skip
            exact ⟨⟨_, rfl⟩, trivial⟩
        case int k =>
          cases h
          match cs, hl with
          | [v], _ =>
            obtain ⟨m, e, _, w⟩ := DataW.trod_int hu hx
            cases e
            exact ⟨⟨m, rfl, w⟩, trivial⟩
        case struct fs =>
          simp only at h
          unfold DataW.trod at hx
          rw [hu] at hx
          simp only at hx
          split at hx
          · rename_i hcl
            cases hm : (fs.toList.mapM fun f => DataW.trod enc P W base sp held fuel f.type ((cs.drop f.offset).take (P.cellsOf f.type))) with
            | none => rw [hm] at hx; cases hx
            | some ys =>
              -- the fields one behind the other
              have key : ∀ (l : List Field) (acc : List (Option IntKind)) (zs : List (DataW H × List MemPlace)), l.foldl (fun a f => match a, lvs P n f.type with | some l, some m => bif Nat.beq f.offset l.length && Nat.beq (P.cellsOf f.type) m.length then some (l ++ m) else none | _, _ => none) (some acc) = some ks →
                  (l.mapM fun f => DataW.trod enc P W base sp held fuel f.type ((cs.drop f.offset).take (P.cellsOf f.type))) = some zs → AllLv acc (cs.take acc.length) → AllLv ks (cs.take ks.length) := by
                intro l
                induction l with
                | nil => intro acc zs hf _ ha; cases hf; exact ha
                | cons f l ih =>
                  intro acc zs hf hz ha
                  have none_stays : ∀ (l : List Field), l.foldl (fun a f => match a, lvs P n f.type with | some l, some m => bif Nat.beq f.offset l.length && Nat.beq (P.cellsOf f.type) m.length then some (l ++ m) else none | _, _ => none) none = none := by
                    intro l; induction l with | nil => rfl | cons f l ih => exact ih
                  simp only [List.foldl_cons] at hf
                  cases hlv : lvs P n f.type with
                  | none => rw [hlv] at hf; simp only at hf; rw [none_stays] at hf; cases hf
                  | some m =>
                    rw [hlv] at hf
                    simp only at hf
                    cases hb : (Nat.beq f.offset acc.length && Nat.beq (P.cellsOf f.type) m.length) with
                    | false => rw [hb] at hf; simp only [cond_false] at hf; rw [none_stays] at hf; cases hf
                    | true =>
                      rw [hb] at hf
                      simp only [cond_true] at hf
                      simp only [Bool.and_eq_true] at hb
                      have e1 := Nat.eq_of_beq_eq_true hb.1
                      have e2 := Nat.eq_of_beq_eq_true hb.2
                      rw [List.mapM_cons] at hz
                      cases h1 : DataW.trod enc P W base sp held fuel f.type ((cs.drop f.offset).take (P.cellsOf f.type)) with
                      | none => rw [h1] at hz; cases hz
                      | some y =>
                        rw [h1] at hz
                        cases h2 : (l.mapM fun f => DataW.trod enc P W base sp held fuel f.type ((cs.drop f.offset).take (P.cellsOf f.type))) with
                        | none => rw [h2] at hz; cases hz
                        | some zs' =>
                          rw [e1, e2] at h1
                          have hlen : ((cs.drop acc.length).take m.length).length = m.length := by
                            -- all that is read is there
                            have tot : ∀ (l : List Field) (a : List (Option IntKind)), l.foldl (fun a f => match a, lvs P n f.type with | some l, some m => bif Nat.beq f.offset l.length && Nat.beq (P.cellsOf f.type) m.length then some (l ++ m) else none | _, _ => none) (some a) = some ks → a.length ≤ ks.length := by
                              intro l
                              induction l with
                              | nil => intro a h; cases h; exact Nat.le_refl _
                              | cons f l ih =>
                                intro a h
                                simp only [List.foldl_cons] at h
                                cases hlv : lvs P n f.type with
                                | none => rw [hlv] at h; simp only at h; rw [none_stays] at h; cases h
                                | some m =>
                                  rw [hlv] at h
                                  simp only at h
                                  cases hb : (Nat.beq f.offset a.length && Nat.beq (P.cellsOf f.type) m.length) with
                                  | false => rw [hb] at h; simp only [cond_false] at h; rw [none_stays] at h; cases h
                                  | true =>
                                    rw [hb] at h
                                    have := ih _ h
                                    simp only [List.length_append] at this
                                    omega
                            have := tot l _ hf
                            simp only [List.length_append] at this
                            rw [List.length_take, List.length_drop]
                            omega
                          have hm' := lvs_ok n hlv h1 hlen
                          refine ih _ _ hf h2 ?_
                          have : cs.take (acc ++ m).length = cs.take acc.length ++ (cs.drop acc.length).take m.length := by
                            rw [List.length_append, List.take_add]
                          rw [this]
                          exact ha.app hm'
              have := key fs.toList [] ys h hm trivial
              rw [← hl, List.take_length] at this
              exact this
          · cases hx

/-- A structure's cells. -/
theorem open_leaves {t : TypeId} {v : Value} {d : DataW H} {p : List MemPlace} {fs : Array Field} {r : Reach} {b0 : Nat} (n : Nat) {ks : List (Option IntKind)} (hk : lvs P n t = some ks) (hu : P.underlying t = some (.struct fs)) (hn : P.cellsOf t = ks.length)
    (hv : Value.okWide P W r b0 t v) (h : DataW.Trod enc P W base sp held t v d p) : ∃ cs : List Value, v = .agg ⟨cs⟩ ∧ AllLv ks cs := by
  obtain ⟨cs, rfl, hsz⟩ := okWide_struct hu hv
  obtain ⟨fuel, hf⟩ := h
  obtain ⟨l⟩ := cs
  exact ⟨l, rfl, lvs_ok n hk hf (by rw [← hn]; exact hsz)⟩
end

theorem lv_int {k : IntKind} {ks : List (Option IntKind)} : ∀ {cs : List Value}, AllLv (some k :: ks) cs → ∃ n l, cs = .int k n :: l ∧ (Lit.int k n).wf = true ∧ AllLv ks l
  | _ :: l, ⟨⟨n, e, w⟩, h⟩ => ⟨n, l, by rw [e], w, h⟩
theorem lv_bool {ks : List (Option IntKind)} : ∀ {cs : List Value}, AllLv (none :: ks) cs → ∃ b l, cs = .bool b :: l ∧ AllLv ks l
  | _ :: l, ⟨⟨b, e⟩, h⟩ => ⟨b, l, by rw [e], h⟩
theorem lv_nil : ∀ {cs : List Value}, AllLv [] cs → cs = []
  | [], _ => rfl

/-! ### arguments that are slices -/
/-- A slice that came in. -/
structure Arg (W : World) where
  vals : List Value
  n : Nat
  own : Bool
  loc : Loc
  v : Value
  closed : NoAddr vals
  is : (loc.nil = true ∧ vals = [] ∧ own = true ∧ n = 0 ∧ v = .slice none 0 0) ∨
    (loc.nil = false ∧ own = false ∧ loc.block < W.heap.size ∧ (∀ (j : Nat) (u : Value), vals[j]? = some u → W.cell? ⟨loc.block, loc.off + j, none⟩ = some u) ∧ v = .slice (some ⟨loc.block, loc.off, none⟩) n loc.ecap)

def Arg.blk {W : World} (a : Arg W) : Sl := .live ⟨a.vals, a.own, none⟩

theorem Arg.tr {W : World} {A : List (Arg W)} {i : Nat} {a : Arg W} (h : A[i]? = some a) : tr0 (A.map (·.loc)) (.slice (some ⟨i, 0, none⟩) a.n 0) = a.v := by
  have hl : (A.map (·.loc))[i]? = some a.loc := by rw [List.getElem?_map, h]; rfl
  rcases a.is with ⟨h1, h2, h3, h4, h5⟩ | ⟨h1, h2, h3, h4, h5⟩
  · simp only [tr0, hl, h1, if_true, h4, h5]
  · simp [tr0, hl, h1, h5]

theorem args_inv {W : World} (A : List (Arg W)) : Inv W.heap.size (A.map Arg.blk) (A.map (·.loc)) W where
  len := by simp
  base_le := Nat.le_refl _
  blk := fun i b hb => by
    rw [List.getElem?_map] at hb
    cases ha : A[i]? with
    | none => rw [ha] at hb; cases hb
    | some a =>
      rw [ha] at hb
      cases hb
      refine ⟨a.loc, by rw [List.getElem?_map, ha]; rfl, fun v hv => wf1_mono (fun i hi => by rw [born_nil] at hi; cases hi) v (a.closed v hv), ?_⟩
      rcases a.is with ⟨h1, h2, h3, h4, h5⟩ | ⟨h1, h2, h3, h4, h5⟩
      · exact .inl ⟨h1, h2, h3⟩
      · exact .inr (.inr ⟨h1, h2, h3, fun j v hj => by rw [tr1_closed v (a.closed v (List.mem_of_getElem? hj))]; exact h4 j v hj⟩)
  apart := fun i j bi bj li lj hij h1 h2 o1 o2 r1 r2 n1 n2 => by
    rw [List.getElem?_map] at h1 r1
    cases ha : A[i]? with
    | none => rw [ha] at h1; cases h1
    | some a =>
      rw [ha] at h1 r1
      cases h1; cases r1
      rcases a.is with ⟨q1, _⟩ | ⟨_, q2, _⟩
      · rw [q1] at n1; cases n1
      · have : a.own = true := o1
        rw [q2] at this; cases this

theorem calls_args {f : Nat} {as : List Value} {b : Bool} {h' : Heap} {W : World} (A : List (Arg W)) (h : LCalls P f as (A.map Arg.blk) (.bool b) h') (hw : as.all (wf (A.map Arg.blk)) = true) :
    Calls P f ⟨as.map (tr (A.map (·.loc)))⟩ W fun e W' => e = .returned (.bool b) ∧ Below W.heap.size W W' := by
  have h1 := h W.heap.size (A.map (·.loc)) W (args_inv A) (fun x hx => List.all_eq_true.1 hw x hx)
  refine Calls.mono h1 ?_
  rintro e W' ⟨ρ', m, _, rfl⟩
  refine ⟨rfl, m.below fun k ⟨i, b, l, h1, h2, h3, h4, _⟩ => ?_⟩
  rw [List.getElem?_map] at h1 h3
  cases ha : A[i]? with
  | none => rw [ha] at h1; cases h1
  | some a =>
    rw [ha] at h1 h3
    cases h1; cases h3
    rcases a.is with ⟨q1, _⟩ | ⟨_, q2, _⟩
    · rw [q1] at h4; cases h4
    · have : a.own = true := h2
      rw [q2] at this; cases this

theorem open_list {H : Type} {enc : TypeId × Value → H} {W : World} {b0 : Nat} {sp : Nat → Bool} {held : Bool} {r : Reach} {t e : TypeId} {v : Value} {d : DataW H} {p : List MemPlace} (n : Nat) {ks : List (Option IntKind)} (hu : P.underlying t = some (.slice e)) (hk : lvs P n e = some ks)
    (hz : P.cellsOf e = ks.length) (hv : Value.okWide P W r b0 t v) (h : DataW.Trod enc P W 0 sp held t v d p) : ∃ cs : List (List Value), (∀ c ∈ cs, AllLv ks c) ∧ cs.length ≤ maxLen ∧
      ((v = .slice none 0 0 ∧ cs = []) ∨ ∃ b off cap, v = .slice (some ⟨b, off, none⟩) cs.length cap ∧ b < W.heap.size ∧ ∀ (j : Nat) (u : Value), cs.flatten[j]? = some u → W.cell? ⟨b, off + j, none⟩ = some u) := by
  obtain ⟨fuel, hf⟩ := h
  have hv' := hv
  unfold Value.okWide at hv'
  simp only [hu] at hv'
  unfold Cell.okWide at hv'
  simp only [hu] at hv'
  unfold Cell.ok at hv'
  simp only [hu] at hv'
  obtain ⟨a0, l0, c0, rfl⟩ := okWide_slice hu hv
  rcases Go.Deep.open_slice hu hf with ⟨hcs, _⟩ | ⟨a, len, cap, m, k, D, Pl, hcs, _, hlc, hcap, hm, _, hel⟩
  · have : Value.slice a0 l0 c0 = .slice none 0 0 := by simpa [Value.cells] using hcs
    exact ⟨[], fun _ h => by simp at h, Nat.zero_le _, .inl ⟨this, rfl⟩⟩
  · have hvs : Value.slice a0 l0 c0 = .slice (some a) len cap := by simpa [Value.cells] using hcs
    rw [hvs] at hv' ⊢
    simp only at hv'
    obtain ⟨_, _, _, hs, row, cl, hsh, _⟩ := hv'
    have hblk : a.block < W.heap.size := by
      unfold World.shape? at hsh
      rcases Nat.lt_or_ge a.block W.heap.size with h | h
      · exact h
      · rw [Array.getElem?_eq_none h] at hsh; cases hsh
    have hle : len ≤ m := by rw [hm]; split <;> omega
    have each : ∀ i, i < len → ∃ c, AllLv ks c ∧ c.length = ks.length ∧ ∀ (j : Nat) (u : Value), c[j]? = some u → W.cell? ⟨a.block, a.off + (i * ks.length + j), none⟩ = some u := fun i hi => by
      obtain ⟨c, h1, h2⟩ := hel i (by omega)
      rw [hz] at h1
      obtain ⟨_, g1, g2⟩ := World.cells?_some h1
      refine ⟨c, lvs_ok n hk h2 g1, g1, fun j u hj => ?_⟩
      have hjl : j < ks.length := by rw [← g1]; exact (List.getElem?_eq_some_iff.1 hj).1
      have g3 := g2 j hjl
      rw [hj] at g3
      have ea : (a.add (i * ks.length)).add j = ⟨a.block, a.off + (i * ks.length + j), none⟩ := by
        obtain ⟨ab, ao, asp⟩ := a
        simp only at hs
        subst hs
        unfold Addr.add
        by_cases h1 : i * ks.length = 0
        · rw [if_pos h1, h1]
          by_cases h2 : j = 0
          · rw [if_pos h2, h2]; simp
          · rw [if_neg h2]; simp
        · rw [if_neg h1]
          by_cases h2 : j = 0
          · rw [if_pos h2, h2]; simp
          · rw [if_neg h2]; simp [Nat.add_assoc]
      rw [ea] at g3
      exact g3
    have build : ∀ k, k ≤ len → ∃ cs : List (List Value), cs.length = k ∧ (∀ c ∈ cs, AllLv ks c ∧ c.length = ks.length) ∧ ∀ (j : Nat) (u : Value), cs.flatten[j]? = some u → W.cell? ⟨a.block, a.off + j, none⟩ = some u := by
      intro k
      induction k with
      | zero => intro _; exact ⟨[], rfl, fun _ h => by simp at h, fun j u h => by simp at h⟩
      | succ k ih =>
        intro hk'
        obtain ⟨cs, e1, e2, e3⟩ := ih (by omega)
        obtain ⟨c, f1, f2, f3⟩ := each k (by omega)
        have hfl : cs.flatten.length = k * ks.length := by
          rw [← e1]
          clear e1 e3 ih
          induction cs with
          | nil => simp
          | cons x cs ih => rw [List.flatten_cons, List.length_append, ih (fun c hc => e2 c (List.mem_cons_of_mem _ hc)), (e2 x (List.mem_cons_self ..)).2, List.length_cons, Nat.add_mul]; omega
        refine ⟨cs ++ [c], by simp [e1], fun c' hc' => ?_, fun j u hj => ?_⟩
        · rcases List.mem_append.1 hc' with h | h
          · exact e2 c' h
          · rw [List.mem_singleton.1 h]; exact ⟨f1, f2⟩
        · rw [List.flatten_append] at hj
          rcases Nat.lt_or_ge j cs.flatten.length with hlt | hge
          · rw [List.getElem?_append_left hlt] at hj; exact e3 j u hj
          · rw [List.getElem?_append_right hge] at hj
            have hj' : c[j - cs.flatten.length]? = some u := by simpa using hj
            have := f3 _ u hj'
            rw [show k * ks.length + (j - cs.flatten.length) = j by omega] at this
            exact this
    obtain ⟨cs, e1, e2, e3⟩ := build len (Nat.le_refl _)
    obtain ⟨ab, ao, asp⟩ := a
    simp only at hs
    subst hs
    exact ⟨cs, fun c hc => (e2 c hc).1, by rw [e1]; omega, .inr ⟨ab, ao, cap, by rw [e1], hblk, e3⟩⟩

/-- A list of cells, told by what it stands for. -/
theorem typed {T : Type} {cf : T → List Value} {Q : T → Prop} : ∀ {cs : List (List Value)}, (∀ c ∈ cs, ∃ x, cf x = c ∧ Q x) → ∃ L : List T, L.flatMap cf = cs.flatten ∧ L.length = cs.length ∧ ∀ x ∈ L, Q x
  | [], _ => ⟨[], rfl, rfl, fun _ h => by simp at h⟩
  | c :: cs, h => by
    obtain ⟨x, e, q⟩ := h c (List.mem_cons_self ..)
    obtain ⟨L, e1, e2, e3⟩ := typed (fun c' hc' => h c' (List.mem_cons_of_mem _ hc'))
    exact ⟨x :: L, by rw [List.flatMap_cons, List.flatten_cons, e, e1], by simp [e2], fun y hy => by rcases List.mem_cons.1 hy with h | h; rw [h]; exact q; exact e3 y h⟩

theorem open_arg {H : Type} {enc : TypeId × Value → H} {W : World} {b0 : Nat} {sp : Nat → Bool} {held : Bool} {r : Reach} {t e : TypeId} {v : Value} {d : DataW H} {p : List MemPlace} (n : Nat) {ks : List (Option IntKind)} {T : Type} {cf : T → List Value} {Q : T → Prop} (hu : P.underlying t = some (.slice e)) (hk : lvs P n e = some ks)
    (hz : P.cellsOf e = ks.length) (hc : ∀ t, (cf t).all (wf1 []) = true) (ht : ∀ c, AllLv ks c → ∃ x, cf x = c ∧ Q x) (hv : Value.okWide P W r b0 t v) (h : DataW.Trod enc P W 0 sp held t v d p) :
    ∃ (L : List T) (A : Arg W), A.vals = L.flatMap cf ∧ A.n = L.length ∧ A.v = v ∧ L.length ≤ maxLen ∧ ∀ x ∈ L, Q x := by
  obtain ⟨cs, h1, h2, h3⟩ := open_list n hu hk hz hv h
  obtain ⟨L, e1, e2, e3⟩ := typed (fun c hc => ht c (h1 c hc))
  rcases h3 with ⟨rfl, rfl⟩ | ⟨b, off, cap, rfl, hb, hcell⟩
  · have : L = [] := List.length_eq_zero_iff.1 e2
    subst this
    exact ⟨[], ⟨[], 0, true, ⟨true, 0, 0, 0, 0⟩, .slice none 0 0, (fun v hv => by simp at hv), .inl ⟨rfl, rfl, rfl, rfl, rfl⟩⟩, rfl, rfl, rfl, Nat.zero_le _, e3⟩
  · refine ⟨L, ⟨L.flatMap cf, L.length, false, ⟨false, b, off, 1, cap⟩, .slice (some ⟨b, off, none⟩) cs.length cap, na_flat hc L, .inr ⟨rfl, rfl, hb, fun j u hj => hcell j u (by rw [← e1]; exact hj), by rw [e2]⟩⟩, rfl, rfl, rfl, by omega, e3⟩
end Go.LE
