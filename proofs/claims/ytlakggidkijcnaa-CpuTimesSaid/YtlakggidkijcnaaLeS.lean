import Derived.Test.YtlakggidkijcnaaLeR
set_option linter.all false
/- Regions that draw their order: what the code does. -/
namespace Go.LE
open Go

section
variable {P : Program} {N : Nat}

theorem replicate_all {n i : Nat} {b : Bool} (h : (Array.replicate n false)[i]? = some b) : b = false := by
  rw [Array.getElem?_replicate] at h
  split at h
  · cases h; rfl
  · cases h

theorem unborns {base : Nat} : ∀ (n : Nat) {h : Heap} {ρ : Rho} {w : World}, Inv base h ρ w → ∃ ρ', Moves base h ρ w (h ++ List.replicate n .unborn) ρ' w
  | 0, h, ρ, w, hi => ⟨ρ, by rw [List.replicate_zero, List.append_nil]; exact Moves.refl hi⟩
  | n + 1, h, ρ, w, hi => by
    have m := Moves.unborn hi ⟨true, 0, 0, 0, 0⟩
    obtain ⟨ρ', m'⟩ := unborns n m.inv
    refine ⟨ρ', ?_⟩
    have := m.trans m'
    rw [List.append_assoc] at this
    rw [List.replicate_succ]
    exact this

def ds0 (h0 : Heap) (ds : List Dir) (obs : List Prop) : DS := ⟨0, [], 0, false, 0, h0, h0, ds, obs⟩

theorem ds0_fwd {h0 : Heap} {ds : List Dir} {obs : List Prop} : Fwd h0 (ds0 h0 ds obs) where
  mem := fun j h => by cases h
  keys := fun j e h => by cases h
  loose := fun j h => by cases h
  free := fun _ => ⟨rfl, rfl⟩
  k_le := Nat.le_refl _
  pin_ge := fun j h => by cases h
  late := fun j h => by cases h
  len := Nat.le_refl _
  old := fun _ _ => rfl
  al := fun j a b h => by cases h
  al_ne := fun i j a b b' h => by cases h
  al_all := fun a h1 h2 => by have : a < h0.length := h2; omega

theorem LCode.drawn (hm : P.follows .mixedOrders = true) {id : Nat} {ops : Array Oper} {tm : Tm} {h0 : Heap} {ds : List Dir} {obs : List Prop} {fin : DS}
    (hd : DRuns P N ops (restTm ops.toList tm) h0 ops.toList (ds0 h0 ds obs) fin) :
    LCode P N (.region id ops true) tm h0 .normal (endTm fin.done (restTm ops.toList tm)) fin.h := by
  obtain ⟨_, b3, f, _, _, b7, good⟩ := druns_ok hd ds0_fwd
  have hn : fin.n = ops.size := by rw [b3]; simp [ds0]
  have hpk := (b7 rfl).1
  have G : ∀ i o, ops[i]? = some o → Good P N ops (restTm ops.toList tm) h0 fin i o := fun i o h => by
    have := good i o (by rw [Array.getElem?_toList]; exact h)
    simpa [ds0] using this
  have at_ : ∀ i, i < ops.size → ∃ o, ops[i]? = some o := fun i hi => ⟨ops[i], Array.getElem?_eq_getElem hi⟩
  have lt_ : ∀ {i : Nat} {o : Oper}, ops[i]? = some o → i < ops.size := fun h => (Array.getElem?_eq_some_iff.1 h).1
  intro base dl ρ a w r
  have low : ∀ t v, look (restTm ops.toList tm) t = some v → wf h0 v = true := fun t v hv => (r.tmp t v (restTm_look hv).1).2
  have notdst : ∀ t v, look (restTm ops.toList tm) t = some v → ∀ (j : Nat) (o' : Oper), ops[j]? = some o' → o'.dst ≠ some t := fun t v hv j o' ho' =>
    (restTm_look hv).2 o' (by rw [← Array.getElem?_toList] at ho'; exact List.mem_of_getElem? ho')
  let pl : Plan P N ops (restTm ops.toList tm) h0 :=
    { vs := fun i => (entAt fin.done i).v
      kind := fun i => (entAt fin.done i).kind
      mask := fun i => (entAt fin.done i).mask
      tmi := fun i => (entAt fin.done i).tmi
      k := fin.k
      hp := hpOf fin
      nA := fin.hK.length - h0.length
      k_le := by rw [← hn]; exact f.k_le
      acyclic := fun i o ho e he hb => edgesOk_mem (G i o ho).edges e he hb
      masks := fun i o ho L h1 h2 t ht => by
        rw [(G i o ho).mask] at ht
        exact maskOf_ok h2 _ h1 t ht
      dst_ok := fun i o ho => (G i o ho).dok
      dst_ne := fun i j o o' d hij h1 h2 hd hd' => by
        rcases Nat.lt_or_ge i j with h | h
        · exact (G j o' h2).fresh i h d hd' (by rw [(G i o h1).dst]; exact hd)
        · exact (G i o h1).fresh j (by omega) d hd (by rw [(G j o' h2).dst]; exact hd')
      tmi_ok := fun i o ho t v hv => by
        rcases (G i o ho).tmi t v hv with ⟨j, h1, h2, h3, h4⟩ | h
        · obtain ⟨o', ho'⟩ := at_ j (by have := lt_ ho; omega)
          exact .inl ⟨j, o', has_iff.1 h2, ho', by rw [← (G j o' ho').dst]; exact h3, h4⟩
        · exact .inr ⟨h, notdst t v h⟩
      off_ok := fun i o ho => (G i o ho).off
      on_ok := fun i o ho => (G i o ho).on
      float_ok := fun i o ho => (G i o ho).float
      calm_ok := fun i o b ho hk => by
        obtain ⟨q1, ⟨c, q2, q3⟩, _⟩ := (G i o ho).calm b hk
        refine ⟨q1, fun h hh => q2 h ?_⟩
        rw [hh]
        rcases q3 with ⟨l1, e1⟩ | ⟨l1, e1⟩
        · rw [Nat.max_eq_left l1, e1]
        · rw [Nat.max_eq_right l1, e1, hpk, f.old b q1]
      calm_pin := fun i j b hi hj hki hkj => by
        obtain ⟨oi, hoi⟩ := at_ i hi
        obtain ⟨oj, hoj⟩ := at_ j hj
        rcases Nat.lt_trichotomy i j with h | h | h
        · rcases ((G j oj hoj).pin hkj).2.2.2 i b h hki with c | c
          · exact .inl c
          · exact .inr (.inl ⟨h, has_iff.1 c⟩)
        · subst h
          rw [hki] at hkj
          cases hkj
        · rcases ((G i oi hoi).calm b hki).2.2 j h hkj with c | c
          · exact .inl (((G j oj hoj).pin hkj).2.2.1 b c)
          · exact .inr (.inr ⟨h, has_iff.1 c⟩)
      quiet_ok := fun i o ho hk => by
        obtain ⟨q1, q2⟩ := (G i o ho).quiet hk
        exact ⟨q1, fun t v hv => (q2 t v hv).elim (fun h => h) (low t v)⟩
      alloc_ok := fun i o a b ho hk => (G i o ho).alloc a b hk
      alloc_at := fun i a b hi hk => by
        obtain ⟨q1, q2, _⟩ := f.al i a b (by omega) hk
        have := f.len
        exact ⟨q1, by omega⟩
      alloc_ne := fun i j a b b' hi hj h1 h2 => f.al_ne i j a b b' (by omega) (by omega) h1 h2
      alloc_all := fun a h1 h2 => by
        have := f.len
        obtain ⟨j, b, q1, q2⟩ := f.al_all a h1 (by omega)
        exact ⟨j, b, by omega, q2, by rw [hpk]; exact (f.al j a b q1 q2).2.2⟩
      hp_old := fun i hi => by rw [hpk]; exact f.old i hi
      hp_len := by rw [hpk]; have := f.len; omega
      pin_ge := fun i hi hk => f.pin_ge i (by omega) hk
      pin_ok := fun i o ho hk => ((G i o ho).pin hk).1
      late := fun i h1 h2 h3 => by
        obtain ⟨o, ho⟩ := at_ i h2
        have := f.late i (by omega) h1 h3
        exact ⟨this, (G i o ho).same this⟩
      pin_mask := fun i j hi hk hj hl => by
        obtain ⟨o, ho⟩ := at_ i hi
        exact has_iff.1 (((G i o ho).pin hk).2.1 j hj hl) }
  refine wp_region_any hm ?_
  have m0 := Moves.drawn r.inv (w.drawn + 1)
  obtain ⟨ρ1, m1⟩ := unborns (fin.hK.length - h0.length) m0.inv
  have m := m0.trans m1
  have hw0 := r.inv.wfHeap
  have hend : hpOf fin ops.size = fin.h := by unfold hpOf; rw [hn, if_neg (by omega)]
  refine J.any (pl := pl) (base := base) (ds := dl) (ρ0 := ρ) (w0 := w) hw0 (fun a' w' ρ' p j => ?_) ops.size (Array.replicate ops.size false) a _ ρ1 (h0 ++ List.replicate (fin.hK.length - h0.length) .unborn) fin.k ?_ ?_
  · have hj : pl.hp ops.size = fin.h := hend
    rw [hj] at j
    refine ⟨rfl, ρ', j.moves, { inv := j.moves.inv, size := j.size, defers := j.defers, tmp := fun t v hv => ?_ }⟩
    rcases endTm_look hv with ⟨i, e, h1, h2, h3⟩ | h
    · obtain ⟨k1, k2⟩ := f.keys i e h1
      obtain ⟨o, ho⟩ := at_ i (by omega)
      have hlt : i < ops.size := by omega
      have := j.done i o t (by simp [hlt]) ho (by rw [← (G i o ho).dst, k2]; exact h2)
      have e2 : pl.vs i = v := by rw [h3]; show (entAt fin.done i).v = e.v; rw [k2]
      rw [e2] at this
      exact this
    · exact j.old t v h (notdst t v h)
  · simp
  · have nope : ∀ {i : Nat}, (Array.replicate ops.size false)[i]? ≠ some true := fun {i} h => by have := replicate_all h; cases this
    exact
      { moves := m
        size := r.size
        defers := r.defers
        lsize := by simp
        closed := fun j hj => absurd hj nope
        pins := fun i hi hk => ⟨fun h => absurd h nope, fun h => by
          have := pl.pin_ge i hi hk
          have : fin.k ≤ i := this
          omega⟩
        p_ge := Nat.le_refl _
        p_le := by rw [← hn]; exact f.k_le
        firm := fun h => by have : fin.k < fin.k := h; omega
        heapA := fun _ => ⟨by simp [pl], fun i hi => by rw [List.getElem?_append_left hi], fun i a b hi hk => by
          rw [if_neg nope]
          obtain ⟨q1, q2⟩ := pl.alloc_at i a b hi hk
          have q2' : a < h0.length + (fin.hK.length - h0.length) := q2
          rw [List.getElem?_append_right q1, List.getElem?_replicate, if_pos (by omega)]⟩
        heapB := fun h => by have : fin.k < fin.k := h; omega
        old := fun t v hv _ => by
          obtain ⟨q1, q2⟩ := r.tmp t v (restTm_look hv).1
          exact ⟨by rw [q1, tr_congr m.ext v q2], wf_mono m.born v q2⟩
        done := fun j o d hj => absurd hj nope }

end
end Go.LE
