import Derived.Test.YtlakggidkijcnaaLeI
set_option linter.all false
/- append, told locally. -/
namespace Go.LE
open Go

def kill (h : Heap) : Option Nat → Heap
  | some i => h.set i .dead
  | none => h

theorem kill_length {h : Heap} {k : Option Nat} : (kill h k).length = h.length := by cases k <;> simp [kill]

theorem kill_live {h : Heap} {k : Option Nat} {p : Nat} {b : Blk} (hp : (kill h k)[p]? = some (Sl.live b)) : h[p]? = some (Sl.live b) ∧ k ≠ some p := by
  cases k with
  | none => exact ⟨hp, by simp⟩
  | some i =>
    simp only [kill] at hp
    by_cases hpi : p = i
    · subst hpi
      rcases Nat.lt_or_ge p h.length with hl | hl
      · rw [List.getElem?_set_self hl] at hp; cases hp
      · rw [List.getElem?_eq_none (by simpa using hl)] at hp; cases hp
    · rw [List.getElem?_set_ne (Ne.symm hpi)] at hp
      exact ⟨hp, by simp; omega⟩

theorem kill_born {h : Heap} {k : Option Nat} (hk : ∀ i, k = some i → ∃ b, h[i]? = some (Sl.live b)) (p : Nat) : isBorn (kill h k) p = isBorn h p := by
  cases k with
  | none => rfl
  | some i =>
    obtain ⟨b, hb⟩ := hk i rfl
    have hl : i < h.length := (List.getElem?_eq_some_iff.1 hb).1
    unfold isBorn
    simp only [kill]
    by_cases hpi : p = i
    · subst hpi; rw [List.getElem?_set_self hl, hb]
    · rw [List.getElem?_set_ne (Ne.symm hpi)]

/-- One block is given up, and a new one is there; of the world, the block that was given up may have turned, and new ones may have come. -/
theorem Moves.swap {base : Nat} {h : Heap} {ρ : Rho} {w w' : World} (hi : Inv base h ρ w) {k : Option Nat} (hk : ∀ i, k = some i → ∃ b, h[i]? = some (Sl.live b) ∧ b.own = true) {g : Option Nat} (hg : w.grownBy w' g)
    (hgk : ∀ r, g = some r → ∃ i l, k = some i ∧ ρ[i]? = some l ∧ l.nil = false ∧ l.block = r) {b : Blk} {l : Loc} (hbo : b.own = true) (hvals : ∀ v ∈ b.vals, wf1 h v = true)
    (hl : (l.nil = true ∧ b.vals = []) ∨ (l.nil = false ∧ base ≤ l.block ∧ (g = some l.block ∨ w.heap.size ≤ l.block) ∧
      ∃ cs e fr, w'.heap[l.block]? = some (.cells cs e fr) ∧ unfrozen cs.size fr ∧ RowOK b.row l cs.size e fr ∧ ∀ (j : Nat) (v : Value), b.vals[j]? = some v → cs[l.off + j]? = some (tr1 ρ v))) :
    Moves base h ρ w (kill h k ++ [.live b]) (ρ ++ [l]) w' := by
  have hk' : ∀ i, k = some i → ∃ b, h[i]? = some (Sl.live b) := fun i e => ⟨_, (hk i e).choose_spec.1⟩
  have hlen := @kill_length h k
  have hnew : (kill h k ++ [Sl.live b])[h.length]? = some (Sl.live b) := by rw [← hlen]; simp
  have hborn : ∀ p, isBorn h p = true → isBorn (kill h k ++ [.live b]) p = true := fun p hp => by
    have hp' : isBorn (kill h k) p = true := by rw [kill_born hk']; exact hp
    unfold isBorn at hp' ⊢
    rw [List.getElem?_append_left (by rw [hlen]; exact born_lt hp)]
    exact hp'
  have hext : ∀ p : Nat, isBorn h p = true → (ρ ++ [l])[p]? = ρ[p]? := fun p hp => by rw [List.getElem?_append_left (by rw [hi.len]; exact born_lt hp)]
  have old : ∀ {p : Nat} {c : Blk}, (kill h k ++ [Sl.live b])[p]? = some (Sl.live c) → p ≠ h.length → h[p]? = some (Sl.live c) ∧ k ≠ some p := fun {p c} hp hne => by
    have hlt : p < (kill h k ++ [Sl.live b]).length := (List.getElem?_eq_some_iff.1 hp).1
    simp only [List.length_append, hlen, List.length_cons, List.length_nil] at hlt
    rw [List.getElem?_append_left (by rw [hlen]; omega)] at hp
    exact kill_live hp
  have htr : ∀ v, wf1 h v = true → tr1 (ρ ++ [l]) v = tr1 ρ v := fun v hv => tr1_congr hext v hv
  have hself : (ρ ++ [l])[h.length]? = some l := by rw [← hi.len]; simp
  -- a block that stays does not lie where the world has turned
  have stays : ∀ {p : Nat} {c : Blk} {lp : Loc}, h[p]? = some (Sl.live c) → k ≠ some p → ρ[p]? = some lp → lp.nil = false → c.own = true → w'.heap[lp.block]? = w.heap[lp.block]? ∧ lp.block < w.heap.size ∧ g ≠ some lp.block := fun {p c lp} hp hkp hr hn ho => by
    have h1 := hi.lt hp hr hn ho
    have h2 : g ≠ some lp.block := fun e => by
      obtain ⟨i, li, e1, e2, e3, e4⟩ := hgk _ e
      obtain ⟨bi, hbi, hoi⟩ := hk i e1
      exact hi.apart p i c bi lp li (fun e => hkp (by rw [e1, e])) hp hbi ho hoi hr e2 hn e3 e4.symm
    exact ⟨hg.block _ h1.1 (Ne.symm h2), h1.1, h2⟩
  have gbase : ∀ r, g = some r → base ≤ r := fun r e => by
    obtain ⟨i, li, e1, e2, e3, e4⟩ := hgk _ e
    obtain ⟨bi, hbi, hoi⟩ := hk i e1
    rw [← e4]
    exact (hi.lt hbi e2 e3 hoi).2
  exact
    { born := hborn
      ext := hext
      inv :=
        { len := by simp [hi.len, hlen]
          base_le := Nat.le_trans hi.base_le hg.size
          blk := fun p c hp => by
            by_cases hpn : p = h.length
            · subst hpn
              rw [hnew] at hp
              cases hp
              refine ⟨l, hself, fun v hv => wf1_mono hborn v (hvals v hv), ?_⟩
              rcases hl with ⟨h1, h2⟩ | ⟨h1, h2, _, cs, e, fr, h4, h5, h6, h7⟩
              · exact .inl ⟨h1, h2, hbo⟩
              · exact .inr (.inl ⟨h1, hbo, h2, cs, e, fr, h4, h5, h6, fun j v hj => by rw [htr v (hvals v (List.mem_of_getElem? hj))]; exact h7 j v hj⟩)
            · obtain ⟨hp', hkp⟩ := old hp hpn
              obtain ⟨lp, hlp, hw, hc⟩ := hi.blk p c hp'
              refine ⟨lp, by rw [hext p (born_live hp')]; exact hlp, fun v hv => wf1_mono hborn v (hw v hv), ?_⟩
              rcases hc with hc | ⟨h1, h2, h3, cs, e, fr, h4, h5, h6, h7⟩ | ⟨h1, h2, h3, h4⟩
              · exact .inl hc
              · refine .inr (.inl ⟨h1, h2, h3, cs, e, fr, ?_, h5, h6, fun j v hj => by rw [htr v (hw v (List.mem_of_getElem? hj))]; exact h7 j v hj⟩)
                rw [(stays hp' hkp hlp h1 h2).1]
                exact h4
              · refine .inr (.inr ⟨h1, h2, h3, fun j v hj => ?_⟩)
                rw [htr v (hw v (List.mem_of_getElem? hj))]
                have : w'.cell? ⟨lp.block, lp.off + j, none⟩ = w.cell? ⟨lp.block, lp.off + j, none⟩ :=
                  World.cell?_of_block (hg.block _ (Nat.lt_of_lt_of_le h3 hi.base_le) (fun e => by have := gbase _ e.symm; simp only at this; omega))
                rw [this]
                exact h4 j v hj
          apart := fun p q bp bq lp lq hpq hp hq op oq rp rq np nq => by
            have key : ∀ {p : Nat} {c : Blk} {lp : Loc}, h[p]? = some (Sl.live c) → k ≠ some p → ρ[p]? = some lp → lp.nil = false → c.own = true → l.nil = false → lp.block ≠ l.block := fun {p c lp} hp hkp hr hn ho hln => by
              obtain ⟨_, s2, s3⟩ := stays hp hkp hr hn ho
              rcases hl with ⟨h1, _⟩ | ⟨_, _, h3, _⟩
              · rw [h1] at hln; cases hln
              · rcases h3 with h3 | h3
                · exact fun e => s3 (by rw [e]; exact h3)
                · omega
            by_cases hpn : p = h.length
            · subst hpn
              rw [hself] at rp
              cases rp
              obtain ⟨hq', hkq⟩ := old hq (Ne.symm hpq)
              rw [hext q (born_live hq')] at rq
              exact (key hq' hkq rq nq oq np).symm
            · obtain ⟨hp', hkp⟩ := old hp hpn
              rw [hext p (born_live hp')] at rp
              by_cases hqn : q = h.length
              · subst hqn
                rw [hself] at rq
                cases rq
                exact key hp' hkp rp np op nq
              · obtain ⟨hq', hkq⟩ := old hq hqn
                rw [hext q (born_live hq')] at rq
                exact hi.apart p q bp bq lp lq hpq hp' hq' op oq rp rq np nq }
      os := hg.os
      tape := hg.tape
      output := hg.output
      size := hg.size
      keep := fun r hr hn => hg.block r hr fun e => by
        obtain ⟨i, li, e1, e2, e3, e4⟩ := hgk r e.symm
        obtain ⟨bi, hbi, hoi⟩ := hk i e1
        exact hn ⟨i, bi, li, hbi, hoi, e2, e3, e4⟩
      new := fun r ⟨p, c, lp, h1, h2, h3, h4, h5⟩ => by
        by_cases hpn : p = h.length
        · subst hpn
          rw [hself] at h3
          cases h3
          rcases hl with ⟨g1, _⟩ | ⟨_, _, g3, _⟩
          · rw [g1] at h4; cases h4
          · rcases g3 with g3 | g3
            · obtain ⟨i, li, e1, e2, e3, e4⟩ := hgk _ g3
              obtain ⟨bi, hbi, hoi⟩ := hk i e1
              exact .inl ⟨i, bi, li, hbi, hoi, e2, e3, e4.trans h5⟩
            · exact .inr (by rw [← h5]; exact g3)
        · obtain ⟨hp', _⟩ := old h1 hpn
          rw [hext p (born_live hp')] at h3
          exact .inl ⟨p, c, lp, hp', h2, h3, h4, h5⟩
      grow := fun p c hp hb => by
        have hpn : p ≠ h.length := fun e => by have := born_lt hb; omega
        exact ⟨c, (old hp hpn).1, rfl⟩
      len := by simp [hlen] }

/-! ### the operation -/
structure App where
  vals : List Value
  n : Nat
  dead : Option Nat

/-- What is appended to. -/
def lappDst (h : Heap) (e sz : Nat) (s : Value) : Option App :=
  match s with
  | .slice none 0 0 => some ⟨[], 0, none⟩
  | .slice (some ⟨i, 0, _⟩) n 0 =>
    match h[i]? with
    | some (.live ⟨vals, true, some (e', sz')⟩) => bif Nat.beq e e' && Nat.beq sz sz' then some ⟨vals, n, some i⟩ else none
    | _ => none
  | _ => none

/-- What is appended: the block, the place in it, how many elements. -/
def lappSrc (h : Heap) (x : Value) : Option (Nat × Nat × Nat × List Value) :=
  match x with
  | .slice (some ⟨j, oj, _⟩) m _ =>
    match h[j]? with
    | some (.live b) => some (j, oj, m, b.vals)
    | _ => none
  | .slice none 0 0 => some (h.length, 0, 0, [])
  | _ => none

def bytesOf (P : Program) (t : TypeId) : Option Nat :=
  match P.info? t with
  | some i => some i.bytes
  | none => none

def neqO (a : Option Nat) (j : Nat) : Bool :=
  match a with
  | some i => !(Nat.beq i j)
  | none => true

def lappend (P : Program) (h : Heap) (sd : Bool) (t : TypeId) (s x : Value) : Option ((Heap × Nat) × List Prop) :=
  match P.underlying t with
  | some (.slice e) =>
    match szOf P e, zeroOf P e, bytesOf P e with
    | some (sz + 1), some z, some (by1 + 1) =>
      match lappDst h e (sz + 1) s, lappSrc h x with
      | some d, some (j, oj, m, xs) =>
        bif Nat.beq (lcells z).length (sz + 1) && neqO d.dead j then
          side sd (d.vals.length = d.n * (sz + 1) ∧ (sub xs oj (m * (sz + 1))).length = m * (sz + 1) ∧ (d.n + m) * (by1 + 1) ≤ 140737488355328)
            (some (kill h d.dead ++ [.live ⟨d.vals ++ sub xs oj (m * (sz + 1)), true, some (e, sz + 1)⟩], d.n + m))
        else none
      | _, _ => none
    | _, _, _ => none
  | _ => none

theorem sub_cell {l : List Value} {o s j : Nat} {v : Value} (hj : (sub l o s)[j]? = some v) : l[o + j]? = some v := by
  unfold sub at hj
  have : j < s := by
    rcases Nat.lt_or_ge j s with h | h
    · exact h
    · rw [List.getElem?_eq_none (by rw [List.length_take]; omega)] at hj; cases hj
  rw [List.getElem?_take_of_lt this, List.getElem?_drop] at hj
  exact hj

theorem take_eq_of_get {cs : Array Value} {l : List Value} (_hlen : l.length ≤ cs.size) (hc : ∀ (j : Nat) (v : Value), l[j]? = some v → cs[j]? = some v) : cs.toList.take l.length = l := by
  apply List.ext_getElem?
  intro j
  rcases Nat.lt_or_ge j l.length with hj | hj
  · rw [List.getElem?_take_of_lt hj, List.getElem?_eq_getElem hj]
    have := hc j _ (List.getElem?_eq_getElem hj)
    rw [← Array.getElem?_toList] at this
    exact this
  · rw [List.getElem?_eq_none hj, List.getElem?_eq_none (by rw [List.length_take]; omega)]

section
variable {P : Program} {N : Nat} {o : Oper} {tm : Tm} {h : Heap}

theorem lappDst_ok {base : Nat} {ρ : Rho} {w : World} (hi : Inv base h ρ w) {e sz : Nat} {s : Value} {d : App} (hd : lappDst h e sz s = some d) (hs : wf h s = true) (_hsz : 0 < sz) (hlen : d.vals.length = d.n * sz) :
    w.ownsRow base e sz (tr ρ s) d.n (d.vals.map (tr1 ρ)) ∧ (∀ v ∈ d.vals, wf1 h v = true) ∧ (∀ i, d.dead = some i → ∃ b, h[i]? = some (Sl.live b) ∧ b.own = true) ∧
      (∀ r, (tr ρ s).ownBlock = some r → ∃ i l, d.dead = some i ∧ ρ[i]? = some l ∧ l.nil = false ∧ l.block = r) := by
  cases s with
  | slice a n c =>
    cases a with
    | none =>
      cases n <;> cases c <;> first | (cases hd; done) | skip
      cases hd
      exact ⟨⟨by simp, .inl ⟨rfl, rfl⟩⟩, by simp, by simp, by simp [tr, tr2, tr1, tr0, Value.ownBlock]⟩
    | some ad =>
      obtain ⟨i, of, sp⟩ := ad
      cases of <;> cases c <;> first | (cases hd; done) | skip
      simp only [lappDst] at hd
      cases hb : h[i]? with
      | none => rw [hb] at hd; cases hd
      | some sl =>
        rw [hb] at hd
        cases sl with
        | dead => cases hd
        | unborn => cases hd
        | live b =>
          obtain ⟨vals, own, row⟩ := b
          cases own with
          | false => cases hd
          | true =>
            cases row with
            | none => cases hd
            | some es =>
              obtain ⟨e', sz'⟩ := es
              simp only at hd
              cases hc : (Nat.beq e e' && Nat.beq sz sz') with
              | false => rw [hc] at hd; cases hd
              | true =>
                rw [hc] at hd
                cases hd
                simp only [Bool.and_eq_true] at hc
                have c1 := Nat.eq_of_beq_eq_true hc.1
                have c2 := Nat.eq_of_beq_eq_true hc.2
                subst c1; subst c2
                obtain ⟨l, hl, hw, hblk⟩ := hi.blk i _ hb
                simp only at hlen
                refine ⟨?_, hw, fun k hk => by cases hk; exact ⟨_, hb, rfl⟩, ?_⟩
                · rcases hblk with ⟨h1, h2, _⟩ | ⟨h1, _, h3, cs, ee, fr, h4, h5, h6, h7⟩ | ⟨_, h2, _⟩
                  · simp only at h2
                    have hn0 : n = 0 := by
                      rw [h2] at hlen
                      simp only [List.length_nil] at hlen
                      rcases Nat.mul_eq_zero.1 hlen.symm with h | h
                      · exact h
                      · omega
                    subst hn0
                    refine ⟨by rw [h2]; simp, .inl ⟨?_, rfl⟩⟩
                    simp [tr, tr2, tr1, tr0, hl, h1]
                  · obtain ⟨r1, r2, r3, r4, r5, r6, r7⟩ := h6
                    subst r4; subst r5
                    have hcell : ∀ (j : Nat) (v : Value), (vals.map (tr1 ρ))[j]? = some v → cs[j]? = some v := fun j v hj => by
                      rw [List.getElem?_map, Option.map_eq_some_iff] at hj
                      obtain ⟨u, hu, rfl⟩ := hj
                      have := h7 j u hu
                      rwa [r1, Nat.zero_add] at this
                    have hle : vals.length ≤ cs.size := by
                      rcases Nat.eq_zero_or_pos vals.length with h0 | h0
                      · omega
                      · have hlt : vals.length - 1 < vals.length := by omega
                        have := h7 (vals.length - 1) _ (List.getElem?_eq_getElem hlt)
                        rw [r1, Nat.zero_add] at this
                        have := (Array.getElem?_eq_some_iff.1 this).1
                        omega
                    have hcap : n ≤ l.ecap := by
                      rw [hlen, r6] at hle
                      exact Nat.le_of_mul_le_mul_right hle r3
                    refine ⟨by rw [List.length_map]; exact hlen, .inr ⟨l.block, l.ecap, cs, ?_, h3, h4, hcap, r7, r6, ?_⟩⟩
                    · simp [tr, tr2, tr1, tr0, hl, h1, r1]
                    · have := take_eq_of_get (cs := cs) (l := vals.map (tr1 ρ)) (by simpa using hle) hcell
                      rw [List.length_map, hlen] at this
                      exact this
                  · cases h2
                · intro r hr
                  cases hn : l.nil with
                  | true => simp [tr, tr2, tr1, tr0, hl, hn, Value.ownBlock] at hr
                  | false =>
                    simp [tr, tr2, tr1, tr0, hl, hn, Value.ownBlock] at hr
                    exact ⟨i, l, rfl, hl, hn, hr⟩
  | _ => cases hd

theorem run_append_nilsrc {t ty e sz : Nat} (hu : P.underlying t = some (.slice e)) (hs : szOf P e = some sz) {b : Option Addr} {n c k : Nat} (hc : n ≤ c) (w : World) :
    (Builtin.append_ #[t, t] ty #[.slice b n c, .slice none 0 k]).run P w = .ok (.slice b n c) w := by
  cases b <;> simp [Builtin.append_, run_underlying hu, run_sizeOf' hs, Builtin.lenOf, hc, Builtin.firstCells, storeCells]

theorem op_append {c : Call} {t : TypeId} {x y : Operand} {s u : Value} {sd : Bool} {h' : Heap} {k : Nat} {obs : List Prop} (ho : o.op = .call c) (hc : c.callee = .builtin .append) (ha : c.args = #[x, y]) (ht : c.argTypes = #[t, t])
    (hx : lev tm x = some s) (hy : lev tm y = some u) (hl : lappend P h sd t s u = some ((h', k), obs)) (hob : All obs) : OpOK P N o tm h (sliceTo h.length k) h' :=
  OpOK.world fun base ds ρ a w r => by
    obtain ⟨e1, f1⟩ := r.eval hx
    obtain ⟨e2, f2⟩ := r.eval hy
    unfold lappend at hl
    cases hu : P.underlying t with
    | none => rw [hu] at hl; cases hl
    | some dd =>
      rw [hu] at hl
      cases dd <;> first | (cases hl; done) | skip
      rename_i e
      simp only at hl
      cases hs : szOf P e with
      | none => rw [hs] at hl; cases hl
      | some s0 =>
        cases hz : zeroOf P e with
        | none => rw [hs, hz] at hl; cases s0 <;> cases hl
        | some z =>
          cases hby : bytesOf P e with
          | none => rw [hs, hz, hby] at hl; cases s0 <;> cases hl
          | some b0 =>
            rw [hs, hz, hby] at hl
            cases s0 <;> cases b0 <;> first | (cases hl; done) | skip
            rename_i sz by1
            simp only at hl
            cases hd : lappDst h e (sz + 1) s with
            | none => rw [hd] at hl; cases hl
            | some d =>
              cases hsrc : lappSrc h u with
              | none => rw [hd, hsrc] at hl; cases hl
              | some q =>
                obtain ⟨j, oj, m, xs⟩ := q
                rw [hd, hsrc] at hl
                simp only at hl
                cases hcc : (Nat.beq (lcells z).length (sz + 1) && neqO d.dead j) with
                | false => rw [hcc] at hl; cases hl
                | true =>
                  rw [hcc] at hl
                  simp only [cond_true] at hl
                  obtain ⟨q1, q2, q3, q4⟩ := side_spec hl hob
                  cases q1
                  simp only [Bool.and_eq_true] at hcc
                  have hzl := Nat.eq_of_beq_eq_true hcc.1
                  -- the type's row
                  obtain ⟨i, hinfo⟩ : ∃ i, P.info? e = some i := by
                    unfold szOf at hs
                    cases hi : P.info? e with
                    | none => rw [hi] at hs; cases hs
                    | some i => exact ⟨i, rfl⟩
                  have hsize : i.size = sz + 1 := by unfold szOf at hs; rw [hinfo] at hs; simpa using hs
                  have hbytes : i.bytes = by1 + 1 := by unfold bytesOf at hby; rw [hinfo] at hby; simpa using hby
                  have hzero : i.zero = some z ∧ wf2 [] z = true := by
                    unfold zeroOf at hz
                    rw [hinfo] at hz
                    simp only at hz
                    cases hiz : i.zero with
                    | none => rw [hiz] at hz; cases hz
                    | some z' =>
                      rw [hiz] at hz
                      simp only at hz
                      cases hwz : wf2 [] z' with
                      | false => rw [hwz] at hz; cases hz
                      | true => rw [hwz] at hz; cases hz; exact ⟨rfl, hwz⟩
                  have hzs : z.cells.size = sz + 1 := by
                    have := cells_tr (ρ := ρ) hzero.2
                    rw [tr_closed z (wf_of_wf2 hzero.2)] at this
                    rw [this]
                    simpa using hzl
                  obtain ⟨down, dwf, dlive, dblk⟩ := lappDst_ok r.inv hd f1 (Nat.succ_pos sz) q2
                  have hexec : (execOp a.eval o).run P w = ((Builtin.append_ #[t, t] o.type #[tr ρ s, tr ρ u]).run P w).andThen fun v w' => .ok (.value v) w' := by
                    simp only [execOp, ho, resolve, hc, ha, ht, Sem.run_bind, Sem.run_pure, Result.andThen_ok, invoke, builtin]
                    have : (#[x, y] : Array Operand).map a.eval = #[tr ρ s, tr ρ u] := by simp [e1, e2]
                    rw [this]
                  have core : (∀ v ∈ sub xs oj (m * (sz + 1)), wf1 h v = true) ∧ ∃ v' w', (Builtin.append_ #[t, t] o.type #[tr ρ s, tr ρ u]).run P w = .ok v' w' ∧
                      w'.ownsRow base e (sz + 1) v' (d.n + m) ((d.vals ++ sub xs oj (m * (sz + 1))).map (tr1 ρ)) ∧ w.grownBy w' (tr ρ s).ownBlock ∧ (v'.ownBlock = (tr ρ s).ownBlock ∨ v'.ownBlock = some w.heap.size) := by
                    cases u with
                    | slice ua un uc =>
                      cases ua with
                      | none =>
                        cases un <;> cases uc <;> first | (cases hsrc; done) | skip
                        cases hsrc
                        have hsub : sub ([] : List Value) 0 (0 * (sz + 1)) = [] := by simp [sub]
                        rw [hsub]
                        refine ⟨fun v hv => by simp at hv, tr ρ s, w, ?_, by simpa using down, ⟨rfl, rfl, rfl, Nat.le_refl _, fun _ _ _ => rfl⟩, .inl rfl⟩
                        have e3 : tr ρ (.slice none 0 0) = .slice none 0 0 := rfl
                        rw [e3]
                        rcases down.2 with ⟨h1, h2⟩ | ⟨g, cap, cur, h1, _, _, h2, _⟩
                        · rw [h1]; exact run_append_nilsrc hu hs (Nat.le_refl _) w
                        · rw [h1]; exact run_append_nilsrc hu hs h2 w
                      | some ad =>
                        obtain ⟨j', oj', sp⟩ := ad
                        simp only [lappSrc] at hsrc
                        cases hbj : h[j']? with
                        | none => rw [hbj] at hsrc; cases hsrc
                        | some sl =>
                          rw [hbj] at hsrc
                          cases sl with
                          | dead => cases hsrc
                          | unborn => cases hsrc
                          | live bj =>
                            cases hsrc
                            obtain ⟨lj, hlj, hcj⟩ := r.inv.cell hbj
                            have swf : ∀ v ∈ sub bj.vals oj (m * (sz + 1)), wf1 h v = true := fun v hv => by
                              obtain ⟨q, hq⟩ := List.getElem?_of_mem hv
                              exact (hcj _ _ (sub_cell hq)).2.1
                            refine ⟨swf, ?_⟩
                            rw [List.map_append]
                            cases hln : lj.nil with
                            | true =>
                              have hm0 : m = 0 := by
                                rcases Nat.eq_zero_or_pos m with h | h
                                · exact h
                                · exfalso
                                  have hpos : 0 < (sub bj.vals oj (m * (sz + 1))).length := by rw [q3]; exact Nat.mul_pos h (Nat.succ_pos sz)
                                  have := (hcj _ _ (sub_cell (List.getElem?_eq_getElem hpos))).2.2
                                  rw [hln] at this
                                  cases this
                              subst hm0
                              have e3 : tr ρ (.slice (some ⟨j, oj, sp⟩) 0 uc) = .slice none 0 0 := by simp [tr, tr2, tr1, tr0, hlj, hln]
                              have hsub : sub bj.vals oj (0 * (sz + 1)) = [] := List.eq_nil_of_length_eq_zero (by rw [q3]; simp)
                              rw [e3, hsub]
                              simp only [List.map_nil, List.append_nil, Nat.add_zero]
                              refine ⟨tr ρ s, w, ?_, down, ⟨rfl, rfl, rfl, Nat.le_refl _, fun _ _ _ => rfl⟩, .inl rfl⟩
                              rcases down.2 with ⟨h1, h2⟩ | ⟨g, cap, cur, h1, _, _, h2, _⟩
                              · rw [h1]; exact run_append_nilsrc hu hs (Nat.le_refl _) w
                              · rw [h1]; exact run_append_nilsrc hu hs h2 w
                            | false =>
                              have e3 : tr ρ (.slice (some ⟨j, oj, sp⟩) m uc) = .slice (some ⟨lj.block, lj.off + oj, none⟩) m (if uc = 0 then lj.ecap - oj / lj.esz else uc) := by simp [tr, tr2, tr1, tr0, hlj, hln]
                              rw [e3]
                              have hle : (d.n + m) * 1 ≤ (d.n + m) * (by1 + 1) := Nat.mul_le_mul_left _ (Nat.succ_le_succ (Nat.zero_le _))
                              obtain ⟨v', w', g1, g2, g3, _, g5⟩ := run_append_own_at (P := P) w base t o.type e i z (sz + 1) (by1 + 1) hu hinfo hzero.1 hsize hbytes hzs (Nat.succ_pos sz) (tr ρ s) d.n (d.vals.map (tr1 ρ)) down
                                ⟨lj.block, lj.off + oj, none⟩ m (if uc = 0 then lj.ecap - oj / lj.esz else uc) ((sub bj.vals oj (m * (sz + 1))).map (tr1 ρ)) (by rw [List.length_map]; exact q3)
                                (fun p v hp => by
                                  rw [List.getElem?_map, Option.map_eq_some_iff] at hp
                                  obtain ⟨y, hy, rfl⟩ := hp
                                  rw [add_plain', Nat.add_assoc]
                                  exact (hcj _ _ (sub_cell hy)).1)
                                (fun v hv => by
                                  obtain ⟨y, hy, rfl⟩ := List.mem_map.1 hv
                                  exact tr1_one (swf y hy))
                                (by simp only [maxLen]; omega) q4 r.inv.base_le
                              exact ⟨v', w', g1, g2, g3, g5⟩
                    | _ => cases hsrc
                  obtain ⟨swf, core⟩ := core
                  have allwf : ∀ v ∈ d.vals ++ sub xs oj (m * (sz + 1)), wf1 h v = true := fun v hv => by
                    rcases List.mem_append.1 hv with h | h
                    · exact dwf v h
                    · exact swf v h
                  obtain ⟨v', w', g1, g2, g3, g5⟩ := core
                  -- where the new row lies
                  have fin : ∃ l : Loc, tr (ρ ++ [l]) (sliceTo h.length (d.n + m)) = v' ∧ ((l.nil = true ∧ d.vals ++ sub xs oj (m * (sz + 1)) = []) ∨ (l.nil = false ∧ base ≤ l.block ∧ ((tr ρ s).ownBlock = some l.block ∨ w.heap.size ≤ l.block) ∧
                      ∃ cs e' fr, w'.heap[l.block]? = some (.cells cs e' fr) ∧ unfrozen cs.size fr ∧ RowOK (some (e, sz + 1)) l cs.size e' fr ∧
                        ∀ (p : Nat) (v : Value), (d.vals ++ sub xs oj (m * (sz + 1)))[p]? = some v → cs[l.off + p]? = some (tr1 ρ v))) := by
                    have hself : ∀ l : Loc, (ρ ++ [l])[h.length]? = some l := fun l => by rw [← r.inv.len]; simp
                    rcases g2.2 with ⟨k1, k2⟩ | ⟨g, cap, cur, k1, k2, k3, k4, k5, k6, k7⟩
                    · refine ⟨⟨true, 0, 0, 0, 0⟩, ?_, .inl ⟨rfl, ?_⟩⟩
                      · rw [k1, k2]; simp [sliceTo, tr, tr2, tr1, tr0, hself]
                      · have := g2.1
                        rw [k2, Nat.zero_mul, List.length_map] at this
                        exact List.eq_nil_of_length_eq_zero this
                    · refine ⟨⟨false, g, 0, sz + 1, cap⟩, ?_, .inr ⟨rfl, k2, ?_, cur, e, (0, 0), k3, unfrozen_zero _, ⟨rfl, rfl, Nat.succ_pos sz, rfl, rfl, k6, k5⟩, fun p v hp => ?_⟩⟩
                      · rw [k1, tr_sliceTo (hself _) rfl]
                      · rw [k1] at g5
                        simp only [Value.ownBlock] at g5 ⊢
                        rcases g5 with g5 | g5
                        · exact .inl g5.symm
                        · exact .inr (by simp at g5; omega)
                      · have e4 : ((d.vals ++ sub xs oj (m * (sz + 1))).map (tr1 ρ))[p]? = some (tr1 ρ v) := by rw [List.getElem?_map, hp]; rfl
                        rw [← k7] at e4
                        have hp2 : p < (d.n + m) * (sz + 1) := by
                          rcases Nat.lt_or_ge p ((d.n + m) * (sz + 1)) with h | h
                          · exact h
                          · rw [List.getElem?_eq_none (by rw [List.length_take]; omega)] at e4; cases e4
                        rw [List.getElem?_take_of_lt hp2] at e4
                        simpa using e4
                  obtain ⟨l, l1, l2⟩ := fin
                  have mv := Moves.swap (b := ⟨d.vals ++ sub xs oj (m * (sz + 1)), true, some (e, sz + 1)⟩) (l := l) r.inv dlive g3 dblk rfl allwf l2
                  refine ⟨ρ ++ [l], w', ?_, mv, ?_⟩
                  · rw [hexec, g1, l1]; rfl
                  · exact wf_sliceTo (by simp [isBorn, kill_length])

end
end Go.LE
