import Derived.Test.YtlakggidkijcnaaLeF
set_option linter.all false
/- Operations that turn the memory. -/
namespace Go.LE
open Go

/-! ### a new block -/
theorem born_unborn {h : Heap} {i : Nat} : isBorn (h ++ [.unborn]) i = isBorn h i := by
  unfold isBorn
  rcases Nat.lt_trichotomy i h.length with hl | hl | hl
  · rw [List.getElem?_append_left hl]
  · subst hl; simp
  · rw [List.getElem?_eq_none (by simp; omega), List.getElem?_eq_none (by omega)]

theorem live_unborn {h : Heap} {i : Nat} {b : Blk} (hi : (h ++ [.unborn])[i]? = some (Sl.live b)) : h[i]? = some (Sl.live b) := by
  have hb := born_lt (by rw [← born_unborn]; exact born_live hi : isBorn h i = true)
  rwa [List.getElem?_append_left hb] at hi

theorem Moves.unborn {base : Nat} {h : Heap} {ρ : Rho} {w : World} (hi : Inv base h ρ w) (d : Loc) : Moves base h ρ w (h ++ [.unborn]) (ρ ++ [d]) w where
  born := fun i hb => by rw [born_unborn]; exact hb
  ext := fun i hb => by rw [List.getElem?_append_left (by rw [hi.len]; exact born_lt hb)]
  inv :=
    { len := by simp [hi.len]
      base_le := hi.base_le
      blk := fun i b hb => by
        have hb' := live_unborn hb
        obtain ⟨l, hl, hw, hc⟩ := hi.blk i b hb'
        have e : ∀ v ∈ b.vals, tr1 (ρ ++ [d]) v = tr1 ρ v := fun v hv =>
          tr1_congr (fun i hb => by rw [List.getElem?_append_left (by rw [hi.len]; exact born_lt hb)]) v (hw v hv)
        refine ⟨l, by rw [List.getElem?_append_left (by rw [hi.len]; exact born_lt (born_live hb'))]; exact hl, fun v hv => wf1_mono (fun i hb => by rw [born_unborn]; exact hb) v (hw v hv), ?_⟩
        rcases hc with hc | ⟨h1, h2, h3, cs, e1, fr, h4, h5, h6, h7⟩ | ⟨h1, h2, h3, h4⟩
        · exact .inl hc
        · exact .inr (.inl ⟨h1, h2, h3, cs, e1, fr, h4, h5, h6, fun j v hj => by rw [e v (List.mem_of_getElem? hj)]; exact h7 j v hj⟩)
        · exact .inr (.inr ⟨h1, h2, h3, fun j v hj => by rw [e v (List.mem_of_getElem? hj)]; exact h4 j v hj⟩)
      apart := fun i j bi bj li lj hij h1 h2 o1 o2 r1 r2 n1 n2 => by
        have h1' := live_unborn h1
        have h2' := live_unborn h2
        rw [List.getElem?_append_left (by rw [hi.len]; exact born_lt (born_live h1'))] at r1
        rw [List.getElem?_append_left (by rw [hi.len]; exact born_lt (born_live h2'))] at r2
        exact hi.apart i j bi bj li lj hij h1' h2' o1 o2 r1 r2 n1 n2 }
  os := rfl
  tape := rfl
  output := rfl
  size := Nat.le_refl _
  keep := fun _ _ _ => rfl
  new := fun k ⟨i, b, l, h1, h2, h3, h4, h5⟩ => by
    have h1' := live_unborn h1
    rw [List.getElem?_append_left (by rw [hi.len]; exact born_lt (born_live h1'))] at h3
    exact .inl ⟨i, b, l, h1', h2, h3, h4, h5⟩
  grow := fun i b' h1 _ => ⟨b', live_unborn h1, rfl⟩
  len := by simp

theorem Inv.lt {base : Nat} {h : Heap} {ρ : Rho} {w : World} (hi : Inv base h ρ w) {i : Nat} {b : Blk} {l : Loc} (hb : h[i]? = some (Sl.live b)) (hl : ρ[i]? = some l) (hn : l.nil = false) (ho : b.own = true) :
    l.block < w.heap.size ∧ base ≤ l.block := by
  obtain ⟨l', hl', _, hc⟩ := hi.blk i b hb
  rw [hl] at hl'
  cases hl'
  rcases hc with ⟨h1, _⟩ | ⟨_, _, h3, cs, e1, fr, h4, _⟩ | ⟨_, h2, _⟩
  · rw [h1] at hn; cases hn
  · exact ⟨(Array.getElem?_eq_some_iff.1 h4).1, h3⟩
  · rw [h2] at ho; cases ho

theorem heap_alloc_other (w : World) (o : Obj) (k : Nat) (h : k ≠ w.heap.size) : (w.alloc o).heap[k]? = w.heap[k]? := by
  show (w.heap.push o)[k]? = _
  rw [Array.getElem?_push, if_neg h]

theorem cell_alloc_lt (w : World) (o : Obj) (a : Addr) (h : a.block < w.heap.size) : (w.alloc o).cell? a = w.cell? a := by
  unfold World.cell?
  rw [heap_alloc_other w o _ (by omega)]

/-- A place that is kept free is filled by a new block. -/
theorem Moves.fill {base : Nat} {h : Heap} {ρ : Rho} {w : World} (hi : Inv base h ρ w) {i : Nat} (hu : h[i]? = some .unborn) {vals : List Value} {cs : Array Value} {e : TypeId} {fr : Nat × Nat} {esz ecap : Nat} {row : Option (Nat × Nat)}
    (hv : ∀ v ∈ vals, wf1 h v = true) (hc : ∀ (j : Nat) (v : Value), vals[j]? = some v → cs[j]? = some (tr1 ρ v)) (he : RowOK row ⟨false, w.heap.size, 0, esz, ecap⟩ cs.size e fr) (hf : unfrozen cs.size fr) :
    Moves base h ρ w (h.set i (.live ⟨vals, true, row⟩)) (ρ.set i ⟨false, w.heap.size, 0, esz, ecap⟩) (w.alloc (.cells cs e fr)) := by
  have hlt : i < h.length := (List.getElem?_eq_some_iff.1 hu).1
  have hnb : isBorn h i = false := by simp [isBorn, hu]
  have bne : ∀ {k : Nat}, isBorn h k = true → k ≠ i := fun hk e => by rw [e, hnb] at hk; cases hk
  have hext : ∀ k : Nat, isBorn h k = true → (ρ.set i ⟨false, w.heap.size, 0, esz, ecap⟩)[k]? = ρ[k]? := fun k hk => List.getElem?_set_ne (Ne.symm (bne hk))
  have hborn : ∀ k : Nat, isBorn h k = true → isBorn (h.set i (.live ⟨vals, true, row⟩)) k = true := fun k hk => by
    unfold isBorn at hk ⊢
    rw [List.getElem?_set_ne (fun e => by subst e; simp [hu] at hk)]
    exact hk
  have htr : ∀ v, wf1 h v = true → tr1 (ρ.set i ⟨false, w.heap.size, 0, esz, ecap⟩) v = tr1 ρ v := fun v hv => tr1_congr hext v hv
  have hself : (ρ.set i (⟨false, w.heap.size, 0, esz, ecap⟩ : Loc))[i]? = some ⟨false, w.heap.size, 0, esz, ecap⟩ := by
    rw [List.getElem?_set_self (by rw [hi.len]; exact hlt)]
  have other : ∀ {k : Nat} {b : Blk}, (h.set i (.live ⟨vals, true, row⟩))[k]? = some (Sl.live b) → k ≠ i → h[k]? = some (Sl.live b) := fun hk hne => by
    rwa [List.getElem?_set_ne (Ne.symm hne)] at hk
  have same : ∀ {b : Blk}, (h.set i (.live ⟨vals, true, row⟩))[i]? = some (Sl.live b) → b = ⟨vals, true, row⟩ := fun hk => by
    rw [List.getElem?_set_self hlt] at hk
    cases hk; rfl
  exact
    { born := hborn
      ext := hext
      inv :=
        { len := by rw [List.length_set, List.length_set, hi.len]
          base_le := Nat.le_trans hi.base_le (by simp)
          blk := fun k b hb => by
            by_cases hki : k = i
            · subst hki
              rw [same hb]
              refine ⟨_, hself, fun v hv' => wf1_mono hborn v (hv v hv'), .inr (.inl ⟨rfl, rfl, hi.base_le, cs, e, fr, heap_alloc_new w _, hf, he, fun j v hj => ?_⟩)⟩
              simp only [Nat.zero_add]
              rw [htr v (hv v (List.mem_of_getElem? hj))]
              exact hc j v hj
            · have hb' := other hb hki
              obtain ⟨l, hl, hw, hcc⟩ := hi.blk k b hb'
              refine ⟨l, by rw [hext k (born_live hb')]; exact hl, fun v hv' => wf1_mono hborn v (hw v hv'), ?_⟩
              rcases hcc with hcc | ⟨h1, h2, h3, cs', e1, fr', h4, h5, h6, h7⟩ | ⟨h1, h2, h3, h4⟩
              · exact .inl hcc
              · refine .inr (.inl ⟨h1, h2, h3, cs', e1, fr', ?_, h5, h6, fun j v hj => by rw [htr v (hw v (List.mem_of_getElem? hj))]; exact h7 j v hj⟩)
                rw [heap_alloc_other w _ _ (by have := (Array.getElem?_eq_some_iff.1 h4).1; omega)]
                exact h4
              · refine .inr (.inr ⟨h1, h2, h3, fun j v hj => ?_⟩)
                rw [htr v (hw v (List.mem_of_getElem? hj)), cell_alloc_lt w _ _ (Nat.lt_of_lt_of_le h3 hi.base_le)]
                exact h4 j v hj
          apart := fun p q bp bq lp lq hpq hp hq op oq rp rq np nq => by
            by_cases hpi : p = i
            · subst hpi
              rw [hself] at rp
              cases rp
              have hq' := other hq (Ne.symm hpq)
              rw [hext q (born_live hq')] at rq
              have := (hi.lt hq' rq nq oq).1
              simp only
              omega
            · have hp' := other hp hpi
              rw [hext p (born_live hp')] at rp
              by_cases hqi : q = i
              · subst hqi
                rw [hself] at rq
                cases rq
                have := (hi.lt hp' rp np op).1
                simp only
                omega
              · have hq' := other hq hqi
                rw [hext q (born_live hq')] at rq
                exact hi.apart p q bp bq lp lq hpq hp' hq' op oq rp rq np nq }
      os := rfl
      tape := rfl
      output := rfl
      size := by simp
      keep := fun k hk _ => heap_alloc_other w _ k (by omega)
      new := fun k ⟨p, b, l, h1, h2, h3, h4, h5⟩ => by
        by_cases hpi : p = i
        · subst hpi
          rw [hself] at h3
          cases h3
          exact .inr (by rw [← h5]; exact Nat.le_refl _)
        · have h1' := other h1 hpi
          rw [hext p (born_live h1')] at h3
          exact .inl ⟨p, b, l, h1', h2, h3, h4, h5⟩
      grow := fun k b' h1 hb => ⟨b', other h1 (bne hb), rfl⟩
      len := by rw [List.length_set]; exact Nat.le_refl _ }

theorem Moves.push {base : Nat} {h : Heap} {ρ : Rho} {w : World} (hi : Inv base h ρ w) {vals : List Value} {cs : Array Value} {e : TypeId} {fr : Nat × Nat} {esz ecap : Nat} {row : Option (Nat × Nat)}
    (hv : ∀ v ∈ vals, wf1 h v = true) (hc : ∀ (j : Nat) (v : Value), vals[j]? = some v → cs[j]? = some (tr1 ρ v)) (he : RowOK row ⟨false, w.heap.size, 0, esz, ecap⟩ cs.size e fr) (hf : unfrozen cs.size fr) :
    Moves base h ρ w (h ++ [.live ⟨vals, true, row⟩]) (ρ ++ [⟨false, w.heap.size, 0, esz, ecap⟩]) (w.alloc (.cells cs e fr)) := by
  have m1 := Moves.unborn hi ⟨false, 0, 0, 0, 0⟩
  have m2 := Moves.fill (h := h ++ [.unborn]) (i := h.length) (e := e) m1.inv (by simp) (vals := vals) (fun v hv' => wf1_mono m1.born v (hv v hv'))
    (fun j v hj => by rw [tr1_congr m1.ext v (hv v (List.mem_of_getElem? hj))]; exact hc j v hj) he hf
  have e1 : (h ++ [Sl.unborn]).set h.length (.live ⟨vals, true, row⟩) = h ++ [.live ⟨vals, true, row⟩] := by simp
  have e2 : (ρ ++ [(⟨false, 0, 0, 0, 0⟩ : Loc)]).set h.length ⟨false, w.heap.size, 0, esz, ecap⟩ = ρ ++ [⟨false, w.heap.size, 0, esz, ecap⟩] := by rw [← hi.len]; simp
  rw [e1, e2] at m2
  exact m1.trans m2

/-! ### a store -/
theorem tr0_one {h : Heap} {ρ : Rho} {v : Value} (hv : wf0 h v = true) : (tr0 ρ v).oneCell' = true := by
  cases v with
  | pointer a =>
    cases a with
    | none => rfl
    | some a => simp only [tr0]; split <;> rfl
  | slice a n c =>
    cases a with
    | none => rfl
    | some a =>
      simp only [tr0]
      split
      · split <;> rfl
      · rfl
  | agg cs => cases hv
  | tuple vs => cases hv
  | _ => rfl

theorem tr1_one {h : Heap} {ρ : Rho} {v : Value} (hv : wf1 h v = true) : (tr1 ρ v).oneCell' = true := by
  cases v with
  | func fn f c => rfl
  | iface t v => rfl
  | _ => rw [wf1_low rfl] at hv; rw [tr1_low rfl]; exact tr0_one hv

theorem heap_setCell_row (w : World) (g i : Nat) (cs : Array Value) (t : TypeId) (fr : Nat × Nat) (v : Value) (hg : w.heap[g]? = some (.cells cs t fr)) :
    (w.setCell ⟨g, i, none⟩ v).heap[g]? = some (.cells (cs.setIfInBounds i v) t fr) := by
  simp only [World.setCell, Array.getElem?_modify, if_true, hg, Option.map_some]
  simp

theorem heap_setCell_ne (w : World) (a : Addr) (k : Nat) (v : Value) (h : k ≠ a.block) : (w.setCell a v).heap[k]? = w.heap[k]? := by
  simp only [World.setCell, Array.getElem?_modify]
  rw [if_neg (by omega)]

theorem cell_setCell_ne (w : World) (a b : Addr) (v : Value) (h : b.block ≠ a.block) : (w.setCell a v).cell? b = w.cell? b := by
  unfold World.cell?
  rw [heap_setCell_ne w a _ v h]

def setVals (h : Heap) (i : Nat) (row : Option (Nat × Nat)) (vals : List Value) : Heap := h.set i (.live ⟨vals, true, row⟩)

theorem Moves.store1 {base : Nat} {h : Heap} {ρ : Rho} {w : World} (hi : Inv base h ρ w) {i o : Nat} {vals : List Value} {row : Option (Nat × Nat)} {l : Loc} (hb : h[i]? = some (Sl.live ⟨vals, true, row⟩)) (hl : ρ[i]? = some l) (ho : o < vals.length) {v : Value}
    (hv : wf1 h v = true) : Moves base h ρ w (setVals h i row (vals.set o v)) ρ (w.setCell ⟨l.block, l.off + o, none⟩ (tr1 ρ v)) ∧
      ∀ P : Program, (store ⟨l.block, l.off + o, none⟩ (tr1 ρ v)).run P w = .ok () (w.setCell ⟨l.block, l.off + o, none⟩ (tr1 ρ v)) := by
  obtain ⟨l', hl', hw, hc⟩ := hi.blk i _ hb
  rw [hl] at hl'
  cases hl'
  have hlt : i < h.length := born_lt (born_live hb)
  have hborn : ∀ k : Nat, isBorn (setVals h i row (vals.set o v)) k = isBorn h k := fun k => by
    unfold isBorn setVals
    by_cases hk : k = i
    · subst hk; rw [List.getElem?_set_self hlt, hb]
    · rw [List.getElem?_set_ne (Ne.symm hk)]
  rcases hc with ⟨h1, h2, _⟩ | ⟨h1, h2, h3, cs, e1, fr, h4, h5, h6, h7⟩ | ⟨h1, h2, _⟩
  · simp only at h2; rw [h2] at ho; simp at ho
  · have hcell := h7 o vals[o] (List.getElem?_eq_getElem ho)
    have hsz : l.off + o < cs.size := (Array.getElem?_eq_some_iff.1 hcell).1
    have other : ∀ {k : Nat} {b : Blk}, (setVals h i row (vals.set o v))[k]? = some (Sl.live b) → k ≠ i → h[k]? = some (Sl.live b) := fun hk hne => by
      unfold setVals at hk
      rwa [List.getElem?_set_ne (Ne.symm hne)] at hk
    refine ⟨?_, fun P => ?_⟩
    · exact
        { born := fun k hk => by rw [hborn]; exact hk
          ext := fun _ _ => rfl
          inv :=
            { len := by rw [hi.len]; simp [setVals]
              base_le := by rw [World.size_setCell]; exact hi.base_le
              blk := fun k b hk => by
                by_cases hki : k = i
                · subst hki
                  have : b = ⟨vals.set o v, true, row⟩ := by
                    unfold setVals at hk
                    rw [List.getElem?_set_self hlt] at hk
                    cases hk; rfl
                  subst this
                  refine ⟨l, hl, fun x hx => ?_, .inr (.inl ⟨h1, rfl, h3, cs.setIfInBounds (l.off + o) (tr1 ρ v), e1, fr, heap_setCell_row w _ _ cs e1 fr _ h4, by rw [Array.size_setIfInBounds]; exact h5, by rw [Array.size_setIfInBounds]; exact h6, fun j x hj => ?_⟩)⟩
                  · refine wf1_mono (fun k hk => by rw [hborn]; exact hk) x ?_
                    rcases List.mem_or_eq_of_mem_set hx with h | h
                    · exact hw x h
                    · rw [h]; exact hv
                  · simp only at hj
                    by_cases hjo : j = o
                    · subst hjo
                      rw [List.getElem?_set_self ho] at hj
                      cases hj
                      rw [Array.getElem?_setIfInBounds_self, if_pos hsz]
                    · rw [List.getElem?_set_ne (Ne.symm hjo)] at hj
                      rw [Array.getElem?_setIfInBounds_ne (by omega)]
                      exact h7 j x hj
                · have hk' := other hk hki
                  obtain ⟨lk, hlk, hwk, hck⟩ := hi.blk k b hk'
                  refine ⟨lk, hlk, fun x hx => wf1_mono (fun k hk => by rw [hborn]; exact hk) x (hwk x hx), ?_⟩
                  rcases hck with hck | ⟨g1, g2, g3, cs', e2, fr', g4, g5, g6, g7⟩ | ⟨g1, g2, g3, g4⟩
                  · exact .inl hck
                  · refine .inr (.inl ⟨g1, g2, g3, cs', e2, fr', ?_, g5, g6, g7⟩)
                    rw [heap_setCell_ne w _ _ _ (hi.apart k i b _ lk l hki hk' hb g2 rfl hlk hl g1 h1)]
                    exact g4
                  · refine .inr (.inr ⟨g1, g2, g3, fun j x hj => ?_⟩)
                    rw [cell_setCell_ne w _ _ _ (by simp only; omega)]
                    exact g4 j x hj
              apart := fun p q bp bq lp lq hpq hp hq op oq rp rq np nq => by
                have tolive : ∀ {k : Nat} {b : Blk}, (setVals h i row (vals.set o v))[k]? = some (Sl.live b) → ∃ b', h[k]? = some (Sl.live b') ∧ (b.own = true → b'.own = true) := fun {k b} hk => by
                  by_cases hki : k = i
                  · subst hki; exact ⟨_, hb, fun _ => rfl⟩
                  · exact ⟨b, other hk hki, fun h => h⟩
                obtain ⟨bp', hp', op'⟩ := tolive hp
                obtain ⟨bq', hq', oq'⟩ := tolive hq
                exact hi.apart p q bp' bq' lp lq hpq hp' hq' (op' op) (oq' oq) rp rq np nq }
          os := rfl
          tape := rfl
          output := rfl
          size := by rw [World.size_setCell]; exact Nat.le_refl _
          keep := fun k hk hn => heap_setCell_ne w _ k _ (fun e => hn ⟨i, _, l, hb, rfl, hl, h1, by rw [e]⟩)
          new := fun k ⟨p, b, lp, g1, g2, g3, g4, g5⟩ => by
            by_cases hpi : p = i
            · subst hpi
              rw [hl] at g3
              cases g3
              exact .inl ⟨p, _, l, hb, rfl, hl, h1, g5⟩
            · exact .inl ⟨p, b, lp, other g1 hpi, g2, g3, g4, g5⟩
          grow := fun k b' hk _ => by
            by_cases hki : k = i
            · subst hki
              unfold setVals at hk
              rw [List.getElem?_set_self hlt] at hk
              cases hk
              exact ⟨_, hb, rfl⟩
            · exact ⟨b', other hk hki, rfl⟩
          len := by simp [setVals] }
    · rw [run_store P w _ _ _ (tr1_one hv)]
      have c1 : w.cell? ⟨l.block, l.off + o, none⟩ = some (tr1 ρ vals[o]) := by rw [cell_of_row w _ _ cs e1 fr h4]; exact hcell
      have c2 : w.frozen? ⟨l.block, l.off + o, none⟩ = false := by
        unfold World.frozen?
        simp only [h4]
        have := h5 (l.off + o) hsz
        simp only [Bool.and_eq_false_iff, decide_eq_false_iff_not]
        omega
      simp only [c1, c2, Bool.false_eq_true, if_false]
  · cases h2

theorem Moves.storeCells {base : Nat} {ρ : Rho} {i : Nat} {l : Loc} (hl : ρ[i]? = some l) : ∀ (vs : List Value) (k o : Nat) {h : Heap} {w : World} {vals : List Value} {row : Option (Nat × Nat)}, Inv base h ρ w → h[i]? = some (Sl.live ⟨vals, true, row⟩) →
    o + k + vs.length ≤ vals.length → (∀ v ∈ vs, wf1 h v = true) →
    ∃ w', Moves base h ρ w (setVals h i row (setCells vals (o + k) vs)) ρ w' ∧ ∀ P : Program, (Go.storeCells ⟨l.block, l.off + o, none⟩ (vs.map (tr1 ρ)) k).run P w = .ok () w'
  | [], k, o, h, w, vals, row, hi, hb, _, _ => by
    have e : setVals h i row (setCells vals (o + k) []) = h := by
      unfold setVals
      simp only [setCells]
      have hlt := born_lt (born_live hb)
      apply List.ext_getElem?
      intro j
      by_cases hj : j = i
      · subst hj; rw [List.getElem?_set_self hlt, hb]
      · rw [List.getElem?_set_ne (Ne.symm hj)]
    refine ⟨w, by rw [e]; exact Moves.refl hi, fun P => ?_⟩
    simp [Go.storeCells]
  | v :: vs, k, o, h, w, vals, row, hi, hb, hlen, hv => by
    rw [List.length_cons] at hlen
    obtain ⟨m1, r1⟩ := Moves.store1 hi hb hl (o := o + k) (by omega) (hv v (by simp))
    have hb1 : (setVals h i row (vals.set (o + k) v))[i]? = some (Sl.live ⟨vals.set (o + k) v, true, row⟩) := by
      unfold setVals; rw [List.getElem?_set_self (born_lt (born_live hb))]
    obtain ⟨w', m2, r2⟩ := Moves.storeCells hl vs (k + 1) o m1.inv hb1 (by rw [List.length_set]; omega) (fun x hx => wf1_mono m1.born x (hv x (by simp [hx])))
    refine ⟨w', ?_, fun P => ?_⟩
    · have e : setVals (setVals h i row (vals.set (o + k) v)) i row (setCells (vals.set (o + k) v) (o + (k + 1)) vs) = setVals h i row (setCells vals (o + k) (v :: vs)) := by
        unfold setVals
        rw [List.set_set]
        rfl
      rw [← e]
      exact m1.trans m2
    · simp only [List.map_cons, Go.storeCells, Sem.run_bind, add_plain', Nat.add_assoc]
      rw [r1 P]
      exact r2 P

end Go.LE
