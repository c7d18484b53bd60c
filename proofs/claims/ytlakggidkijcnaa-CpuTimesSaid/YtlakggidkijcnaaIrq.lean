import Derived.RangeFuncNested
import Derived.RangeFuncBound
import Derived.RangeFuncCalls
import Derived.RangeFuncLeaves
import Derived.Shelf.Abstract
import Derived.Shelf.RegionOpen
import Derived.WalkKit
import Derived.OwnWalkIn
import Derived.TacticsInMore
import Derived.LoopNIn
import Derived.LoopIn
import Derived.Test.YtlakggidkijcnaaProg
set_option linter.all false
namespace Go.Proofs
open Go.RowKit Go.Shelf
attribute [local go_sem] Oper.semAt_some

/-- Is the bit there, as the code asks? -/
def irqBit (p : Int) (n : Nat) : Bool := decide (bits .and .u8 (p / 2 ^ n) 1 = 1)

def irqTo (p : Int) : Nat → List Int
  | 0 => []
  | k + 1 => if irqBit p k then irqTo p k ++ [(k : Int)] else irqTo p k

theorem irqTo_length (p : Int) : ∀ k, (irqTo p k).length ≤ k
  | 0 => Nat.le_refl _
  | k + 1 => by
    unfold irqTo
    have := irqTo_length p k
    split
    · simp; omega
    · omega

theorem irqTo_prefix (p : Int) {j k : Nat} (h : j ≤ k) : irqTo p j <+: irqTo p k := by
  induction h with
  | refl => exact List.prefix_refl _
  | step _ ih =>
    rename_i m _
    refine ih.trans ?_
    have e : irqTo p (m + 1) = if irqBit p m then irqTo p m ++ [(m : Int)] else irqTo p m := rfl
    rw [show m.succ = m + 1 from rfl, e]
    split
    · exact List.prefix_append _ _
    · exact List.prefix_refl _

set_option maxRecDepth 100000 in
set_option maxHeartbeats 1000000 in
theorem irq_all1 (F : Fence) (n : Nat) (hf : F.fn 82) (hro : F.round = none) (hn : 1 ≤ n) (l Bn n₀ : Nat) (p : Int) (J Jx : List Int → World → Prop)
    (hY : ∀ pre x W, J pre W → pre.length < 5 → YieldAt F (n - 1) Try.prog l #[.int .i64 x] W fun e W' =>
      (e = .returned (.bool true) ∧ J (pre ++ [x]) W' ∧ Below n₀ W W') ∨ (e = .returned (.bool false) ∧ Jx (pre ++ [x]) W'))
    (hBl : Bn < n₀) (W : World) (hBn : W.cell? ⟨Bn, 0, none⟩ = some (.int .u8 p)) (h0 : J [] W) :
    CallsIn F n Try.prog 82 #[.func (.yield l) #[] #[], .pointer (some ⟨Bn, 0, none⟩)] W fun e W' => (∃ v, e = .returned v) ∧
      ((∃ ys, ys = irqTo p 5 ∧ J ys W') ∨ (∃ pre, pre <+: irqTo p 5 ∧ Jx pre W')) := by
  refine callsIn_of_wp Try.func82 rfl hf ?_ hro
  simp only [Try.ntmps82, List.size_toArray, List.length_cons, List.length_nil, Nat.reduceAdd, Nat.reduceSub, Array.replicate_succ, Array.replicate_zero, List.push_toArray, List.append_toArray, List.nil_append, List.cons_append]
  gi_wp2
  gi_loopw [4] (fun q wr => ∃ k : Nat, q = .int .i64 (k : Int) ∧ k ≤ 5 ∧ J (irqTo p k) wr ∧ wr.cell? ⟨Bn, 0, none⟩ = some (.int .u8 p))
    (fun q wr => 5 - (intOf q).toNat)
  case atStart =>
    exact ⟨0, rfl, by omega, h0, hBn⟩
  case round =>
    obtain ⟨k, rfl, hk, hJs, hB⟩ := hrel
    rcases Nat.lt_or_ge k 5 with hk5 | hk5
    · obtain ⟨fn, tmps, assign, body, hy, hR⟩ := hY (irqTo p k) k wr hJs (by have := irqTo_length p k; omega)
      gi_wp2
      · rename_i hbit _ _
        have hbt : irqBit p k = true := by unfold irqBit; exact decide_eq_true (by assumption)
        have step : irqTo p (k + 1) = irqTo p k ++ [(k : Int)] := by rw [irqTo, if_pos hbt]
        refine hR.mono ?_
        rintro e W3 (⟨rfl, hJ3, hk3⟩ | ⟨rfl, hJx3⟩)
        · have hB3 : W3.cell? ⟨Bn, 0, none⟩ = some (.int .u8 p) := (hk3.cell (p := ⟨Bn, 0, none⟩) hBl).trans hB
          gi_wp2
          go_roundw
          case rel => exact ⟨k + 1, by simp, by omega, by rw [step]; exact hJ3, hB3⟩
          case measure => simp [intOf]; omega
        · gi_wp2
          refine bodyPost_ret (results_none rfl _ _ _) rfl ?_
          exact ⟨⟨_, rfl⟩, .inr ⟨_, by rw [← step]; exact irqTo_prefix p (by omega), hJx3⟩⟩
      · have hbf : ¬ irqBit p k = true := by unfold irqBit; exact fun h => absurd (of_decide_eq_true h) (by assumption)
        have step : irqTo p (k + 1) = irqTo p k := by rw [irqTo, if_neg hbf]
        refine ⟨fun _ h => (by cases h), ?_⟩
        gi_wp2
        go_roundw
        case rel => exact ⟨k + 1, by simp, by omega, by rw [step]; exact hJs, hB⟩
        case measure => simp [intOf]; omega
    · obtain rfl : k = 5 := by omega
      gi_wp2
      go_end0
      exact ⟨⟨_, rfl⟩, .inl ⟨_, rfl, hJs⟩⟩

theorem irq_all_stops (F : Fence) (n : Nat) (hf : F.fn 82) (hro : F.round = none) (hn : 1 ≤ n) (Bn n₀ : Nat) (p : Int) (w : World) (hBl : Bn < n₀) (hn₀ : n₀ ≤ w.heap.size) (hc : w.cell? ⟨Bn, 0, none⟩ = some (.int .u8 p)) :
    SeqStopsK F n Try.prog 82 #[.pointer (some ⟨Bn, 0, none⟩)] (fun x : Int => #[Value.int .i64 x]) (Below n₀) (fun ys => ys = irqTo p 5) (fun pre => pre <+: irqTo p 5) 5 w := fun l J Jx W hW _ _ hY h0 =>
  irq_all1 F n hf hro hn l Bn n₀ p J Jx hY hBl W ((hW.cell (p := ⟨Bn, 0, none⟩) (show Bn < w.heap.size by omega)).trans hc) h0

theorem irq_all (F : Fence) (n : Nat) (hf : F.fn 57) (hro : F.round = none) (p : Int) (w : World) :
    CallsIn F n Try.prog 57 #[.int .u8 p] w fun e w' => e = .returned (.func (.func 82) #[] #[.pointer (some ⟨w.heap.size, 0, none⟩)]) ∧ w' = w.alloc (.cells #[.int .u8 p] 5) := by
  refine callsIn_of_wp Try.func57 rfl hf ?_ hro
  simp only [Try.ntmps57, List.size_toArray, List.length_cons, List.length_nil, Nat.reduceAdd, Nat.reduceSub, Array.replicate_succ, Array.replicate_zero, List.push_toArray, List.append_toArray, List.nil_append, List.cons_append]
  gi_wp2
  go_ret
  exact ⟨rfl, rfl⟩

def firstOf : List Int → Int × Bool
  | [] => (0, false)
  | x :: _ => (x, true)

theorem firstOf_prefix {x : Int} {l : List Int} (h : [x] <+: l) : firstOf l = (x, true) := by
  obtain ⟨t, rfl⟩ := h
  rfl

set_option maxRecDepth 100000 in
set_option maxHeartbeats 2000000 in
theorem irq_first (F : Fence) (n : Nat) (h39 : F.fn 39) (h57 : F.fn 57) (h82 : F.fn 82) (hro : F.round = none) (hn : 3 ≤ n) (p : Int) (w : World) :
    CallsIn F n Try.prog 39 #[.int .u8 p] w fun e W' => e = .returned (.tuple #[.int .i64 (firstOf (irqTo p 5)).1, .bool (firstOf (irqTo p 5)).2]) ∧ Below w.heap.size w W' := by
  have h1 : 1 ≤ n := by omega
  refine callsIn_of_wp_marks Try.func39 rfl h39 ?_ hro
  simp only [Try.ntmps39, List.size_toArray, List.length_cons, List.length_nil, Nat.reduceAdd, Nat.reduceSub, Array.replicate_succ, Array.replicate_zero, List.push_toArray, List.append_toArray, List.nil_append, List.cons_append]
  gi_wp2_with (gi_at_call 57; refine (irq_all F (n - 1) h57 hro _ _).mono ?_; rintro e w' ⟨rfl, rfl⟩)
  have b0 := Boxed.new w 3 (.int .i64 0)
  have b1 := Boxed.new (w.alloc (.cells #[.int .i64 0] 3)) 4 (.bool false)
  rw [World.size_alloc] at b1
  have b2 := Boxed.new ((w.alloc (.cells #[.int .i64 0] 3)).alloc (.cells #[.bool false] 4)) 5 (.int .u8 p)
  rw [World.size_alloc, World.size_alloc] at b2
  have hB0 : Below w.heap.size w (((w.alloc (.cells #[.int .i64 0] 3)).alloc (.cells #[.bool false] 4)).alloc (.cells #[.int .u8 p] 5)) := (((Below.refl _ w).alloc (Nat.le_refl _) _).alloc (by simp) _).alloc (by simp; omega) _
  have own0 : ∀ v, OwnFrom (β := List Int) ((((w.alloc (.cells #[.int .i64 0] 3)).alloc (.cells #[.bool false] 4)).alloc (.cells #[.int .u8 p] 5))).heap.size (fun _ W => Boxed W w.heap.size 3 v) := fun v => Own.from (boxed_own w.heap.size 3 (fun _ => v)) _
  have own1 : ∀ v, OwnFrom (β := List Int) ((((w.alloc (.cells #[.int .i64 0] 3)).alloc (.cells #[.bool false] 4)).alloc (.cells #[.int .u8 p] 5))).heap.size (fun _ W => Boxed W (w.heap.size + 1) 4 v) := fun v => Own.from (boxed_own (w.heap.size + 1) 4 (fun _ => v)) _
  have ownB : OwnFrom (β := List Int) ((((w.alloc (.cells #[.int .i64 0] 3)).alloc (.cells #[.bool false] 4)).alloc (.cells #[.int .u8 p] 5))).heap.size (fun _ W => Below w.heap.size w W) := ownFrom_below (Nat.le_refl _) (by simp; omega)
  refine wpIn_rangeFunc_ownF hro h1 (gf := 82) (lb := #[.pointer (some ⟨w.heap.size + 1 + 1, 0, none⟩)]) rfl h82 (enters_of Try.func82 (by kernel_rfl) rfl)
    (irq_all_stops F (n - 1) h82 hro (by omega) (w.heap.size + 1 + 1) (w.heap.size + 3) p _ (by omega) (by simp) b2.cell) belowK_t (belowK_b (by simp)) (Below.refl _ _) (fun _ => rfl)
    (fun pre W => pre = [] ∧ (Boxed W w.heap.size 3 (.int .i64 0) ∧ Boxed W (w.heap.size + 1) 4 (.bool false)) ∧ Below w.heap.size w W)
    (fun c pre W => ∃ x, c = .ret ∧ pre = [x] ∧ (Boxed W w.heap.size 3 (.int .i64 x) ∧ Boxed W (w.heap.size + 1) 4 (.bool true)) ∧ Below w.heap.size w W)
    (OwnFrom.and (ownFrom_pure _ _) (OwnFrom.and (OwnFrom.and (own0 _) (own1 _)) ownB))
    (fun c s W W' row hs hg hr => by
      obtain ⟨x, hc, hp, ⟨q0, q1⟩, hB⟩ := hs
      exact ⟨x, hc, hp, ⟨own0 _ s W W' row q0 hg hr, own1 _ s W W' row q1 hg hr⟩, ownB s W W' row hB hg hr⟩)
    ⟨rfl, ⟨(b0.alloc _).alloc _, b1.alloc _⟩, hB0⟩
    (fun x => { tmps := #[.int .u8 p, undef, .pointer (some ⟨w.heap.size, 0, none⟩), .pointer (some ⟨w.heap.size + 1, 0, none⟩), .int .i64 x, .int .u8 p, .func (.func 82) #[] #[.pointer (some ⟨w.heap.size + 1 + 1, 0, none⟩)], .int .i64 x, undef], defers := [] }) ?assign ?body ?done ?stop
  case assign =>
    intro l x W K hK
    gi_wp2
    exact hK
  case body =>
    rintro l pre x W ⟨rfl, ⟨q0, q1⟩, hB⟩ _
    have c0 := q0.cell
    have f0 := q0.frozen
    have c1 := q1.cell
    have f1 := q1.frozen
    have r0 := (q0.set (.int .i64 x)).other (B' := w.heap.size + 1) (by omega) (.bool true)
    have r1 := (q1.other (B' := w.heap.size) (by omega) (.int .i64 x)).set (.bool true)
    gi_wp2
    exact ⟨(KeepsOthers.setCell _ _ _).trans (KeepsOthers.setCell _ _ _), x, rfl, rfl, ⟨r0, r1⟩, (hB.setCell (p := ⟨w.heap.size, 0, none⟩) (Nat.le_refl _) _).setCell (p := ⟨w.heap.size + 1, 0, none⟩) (Nat.le_succ _) _⟩
  case done =>
    rintro D ys W hD hys ⟨rfl, ⟨q0, q1⟩, hB⟩ hK
    have c0 := q0.cell
    have f0 := q0.frozen
    have c1 := q1.cell
    have f1 := q1.frozen
    have r0 := (q0.set (.int .i64 0)).other (B' := w.heap.size + 1) (by omega) (.bool false)
    have r1 := (q1.other (B' := w.heap.size) (by omega) (.int .i64 0)).set (.bool false)
    gi_wp2
    have hK' : ((W.setCell ⟨w.heap.size, 0, none⟩ (.int .i64 0)).setCell ⟨w.heap.size + 1, 0, none⟩ (.bool false)).heap[D]? = some (.deferred (some [])) :=
      ((KeepsOthers.setCell W ⟨w.heap.size, 0, none⟩ (.int .i64 0)).trans (KeepsOthers.setCell _ ⟨w.heap.size + 1, 0, none⟩ (.bool false))).same D _ hK rfl
    refine ⟨by simp, .inl ⟨_, _, rfl, run_takeDeferred hK', ?_⟩⟩
    have e0 := cell_kept r0.cell (grownBy_putObj' _ D (.deferred none)) (fun r e => by cases e; exact ⟨_, hK', rfl⟩)
    have e1 := cell_kept r1.cell (grownBy_putObj' _ D (.deferred none)) (fun r e => by cases e; exact ⟨_, hK', rfl⟩)
    refine ⟨.tuple #[.int .i64 0, .bool false], ?_, by rw [← hys]; rfl, ?_⟩
    · simp [results, Try.f39, go_sem, e0, e1]
    · have hB' := (hB.setCell (p := ⟨w.heap.size, 0, none⟩) (Nat.le_refl _) (.int .i64 0)).setCell (p := ⟨w.heap.size + 1, 0, none⟩) (Nat.le_succ _) (.bool false)
      exact hB'.trans (belowK_b (w := w) (Nat.le_refl _) _ D _ _ (by simp at hD; omega) hK' rfl rfl)
  case stop =>
    rintro D c pre W hD hp ⟨x, rfl, rfl, ⟨q0, q1⟩, hB⟩ hK
    have c0 := q0.cell
    have c1 := q1.cell
    gi_wp2
    refine ⟨by simp, .inl ⟨_, _, rfl, run_takeDeferred hK, ?_⟩⟩
    have e0 := cell_kept q0.cell (grownBy_putObj' _ D (.deferred none)) (fun r e => by cases e; exact ⟨_, hK, rfl⟩)
    have e1 := cell_kept q1.cell (grownBy_putObj' _ D (.deferred none)) (fun r e => by cases e; exact ⟨_, hK, rfl⟩)
    refine ⟨.tuple #[.int .i64 x, .bool true], ?_, by rw [firstOf_prefix hp], ?_⟩
    · simp [results, Try.f39, go_sem, e0, e1]
    · exact hB.trans (belowK_b (w := w) (Nat.le_refl _) _ D _ _ (by simp at hD; omega) hK rfl rfl)
end Go.Proofs
