/- Walks: the iterator over the queue's list (slices.Values), slices.AppendSeq, Collect, Clip, and the queue's All. The iterators are walked inside a fence, as the guide's own texts over slices of numbers are. -/
import Derived.RangeFuncNested
import Derived.RangeFuncBox
import Derived.RangeFuncBound
import Derived.RangeFuncCalls
import Derived.RangeFuncLeaves
import Derived.Shelf.Abstract
import Derived.Shelf.RegionOpen
import Derived.OwnWalkIn
import Derived.TacticsInMore
import Derived.LoopNIn
import Derived.LoopIn
import Derived.Maps.AppendAt
import Derived.Test.YtjagoljaocbdcaaQ4
namespace Go.Proofs.Ytjagoljaocbdcaa
open Go.RowKit Go.Shelf

attribute [local go_sem] Oper.semAt_some

set_option maxRecDepth 100000 in
set_option maxHeartbeats 2000000 in
theorem values1_in (F : Fence) (n : Nat) (h32 : F.fn 32) (hro : F.round = none) (hn : 1 ≤ n) (lp Bs n₀ g cap : Nat) (l : List Ask) (hlen : l.length ≤ maxLen) (hg : g < n₀) (J Jx : List Ask → World → Prop)
    (W : World) (hJa : AbidesFrom W.heap.size J)
    (hY : ∀ pre x W, J pre W → pre.length < l.length → YieldAt F (n - 1) Try.prog lp #[Ask.val x] W fun e W' =>
      (e = .returned (.bool true) ∧ J (pre ++ [x]) W' ∧ Below n₀ W W') ∨ (e = .returned (.bool false) ∧ Jx (pre ++ [x]) W'))
    (hn₀ : n₀ ≤ W.heap.size) (hBs : W.cell? ⟨Bs, 0, none⟩ = some (.slice (some ⟨g, 0, none⟩) l.length cap)) (hr : Row W 28 6 (.slice (some ⟨g, 0, none⟩) l.length cap) l.length cap (cellsOf l)) (h0 : J [] W) :
    CallsIn F n Try.prog 32 #[.func (.yield lp) #[] #[], .pointer (some ⟨Bs, 0, none⟩)] W fun e W' => (∃ v, e = .returned v) ∧
      ((∃ ys, ys = l ∧ J ys W') ∨ (∃ pre, pre <+: l ∧ Jx pre W')) := by
  unfold maxLen at hlen
  refine callsIn_of_wp Try.func32 rfl h32 ?_ hro
  simp only [Try.ntmps32, List.size_toArray, List.length_cons, List.length_nil, Nat.reduceAdd, Nat.reduceSub, Array.replicate_succ, Array.replicate_zero, List.push_toArray, List.append_toArray, List.nil_append, List.cons_append]
  gi_wp2
  gi_loopw [7] (fun i wr => ∃ k : Nat, k ≤ l.length ∧ i = .int .i64 k ∧ J (l.take k) wr ∧ Below n₀ W wr)
    (fun i _ => l.length - (intOf i).toNat)
  case atStart => exact ⟨0, Nat.zero_le _, rfl, h0, Below.refl _ _⟩
  case round =>
    obtain ⟨k, hk, rfl, hJs, hnx⟩ := hrel
    by_cases hlt : k < l.length
    · have hJs' := hJa _ _ _ none hJs (World.grownBy_alloc wr (.cells (l[k]).arr 28) none) (fun r e => by cases e)
      obtain ⟨fn, tmps, assign, body, hy, hR⟩ := hY _ l[k] _ hJs' (by rw [List.length_take]; omega)
      have hrw : Row wr 28 6 (.slice (some ⟨g, 0, none⟩) l.length cap) l.length cap (cellsOf l) := hr.kept (Kept.of_below hnx) (fun b hb h => by simp [Value.ownBlock] at hb; omega)
      obtain ⟨a0, a1, a2, a3, a4, a5⟩ := asks_get wr g _ cap k l hrw hlt
      have HT := Lib.hid (List.take_succ_eq_append_getElem hlt)
      generalize l[k] = x at a0 a1 a2 a3 a4 a5 hy hR HT
      unfold Ask.val at hy
      unfold Ask.arr at hy hR
      clear hrw hJs'
      gi_wp2
      refine hR.mono ?_
      rintro e W3 (⟨rfl, hJ3, hk3⟩ | ⟨rfl, hJx3⟩)
      · gi_wp2
        go_roundw
        case rel => exact ⟨k + 1, by omega, by simp, by rw [HT.out]; exact hJ3, hnx.trans (((Below.refl n₀ wr).alloc (Nat.le_trans hn₀ hnx.size) _).trans hk3)⟩
        case measure => simp [intOf]; omega
      · gi_wp2
        refine bodyPost_ret (results_none rfl _ _ _) rfl ?_
        exact ⟨⟨_, rfl⟩, .inr ⟨l.take (k + 1), List.take_prefix _ _, by rw [HT.out]; exact hJx3⟩⟩
    · have hkl : k = l.length := by omega
      gi_wp2
      go_end0
      exact ⟨⟨_, rfl⟩, .inl ⟨_, by rw [hkl, List.take_length], hJs⟩⟩

set_option maxRecDepth 100000 in
set_option maxHeartbeats 1000000 in
theorem values1_nil_in (F : Fence) (n : Nat) (h32 : F.fn 32) (hro : F.round = none) (lp Bs : Nat) (J : List Ask → World → Prop) (W : World) (hBs : W.cell? ⟨Bs, 0, none⟩ = some (.slice none 0 0)) (h0 : J [] W) :
    CallsIn F n Try.prog 32 #[.func (.yield lp) #[] #[], .pointer (some ⟨Bs, 0, none⟩)] W fun e W' => (∃ v, e = .returned v) ∧ J [] W' := by
  refine callsIn_of_wp Try.func32 rfl h32 ?_ hro
  simp only [Try.ntmps32, List.size_toArray, List.length_cons, List.length_nil, Nat.reduceAdd, Nat.reduceSub, Array.replicate_succ, Array.replicate_zero, List.push_toArray, List.append_toArray, List.nil_append, List.cons_append]
  gi_wp2
  gi_loopw [7] (fun i wr => i = .int .i64 0 ∧ J [] wr) (fun _ _ => 0)
  case atStart => exact ⟨rfl, h0⟩
  case round =>
    obtain ⟨rfl, hJs⟩ := hrel
    gi_wp2
    go_end0
    exact ⟨⟨_, rfl⟩, hJs⟩

set_option maxHeartbeats 1000000 in
theorem values_in (F : Fence) (n : Nat) (h31 : F.fn 31) (hro : F.round = none) (a : Option Addr) (len cap : Nat) (w : World) :
    CallsIn F n Try.prog 31 #[.slice a len cap] w fun e w' => e = .returned (.func (.func 32) #[] #[.pointer (some ⟨w.heap.size, 0, none⟩)]) ∧ w' = w.alloc (.cells #[.slice a len cap] 37) := by
  refine callsIn_of_wp Try.func31 rfl h31 ?_ hro
  simp only [Try.ntmps31, List.size_toArray, List.length_cons, List.length_nil, Nat.reduceAdd, Nat.reduceSub, Array.replicate_succ, Array.replicate_zero, List.push_toArray, List.append_toArray, List.nil_append, List.cons_append]
  gi_wp2
  go_ret
  exact ⟨rfl, rfl⟩

theorem values_stops (F : Fence) (n : Nat) (h32 : F.fn 32) (hro : F.round = none) (hn : 1 ≤ n) (Bs n₀ : Nat) (v : Value) (cap : Nat) (l : List Ask) (hlen : l.length ≤ maxLen) (w : World) (hBs : Bs < w.heap.size) (hn₀ : n₀ ≤ w.heap.size)
    (hc : w.cell? ⟨Bs, 0, none⟩ = some v) (hr : Asks w v l cap) (hv : ∀ g, v.ownBlock = some g → g < n₀) :
    SeqStopsK F n Try.prog 32 #[.pointer (some ⟨Bs, 0, none⟩)] (fun x : Ask => #[Ask.val x]) (Below n₀) (fun ys => ys = l) (fun pre => pre <+: l) l.length w := fun lp J Jx W hW hJ _ hY h0 => by
  have hc' := (hW.cell (p := ⟨Bs, 0, none⟩) hBs).trans hc
  have hr' : Asks W v l cap := hr.kept (Kept.of_below_all hW) (fun _ _ h => h)
  rcases hr'.2 with ⟨rfl, h, _⟩ | ⟨g, cur, rfl, _⟩
  · obtain rfl : l = [] := List.eq_nil_of_length_eq_zero h
    exact (values1_nil_in F n h32 hro lp Bs J W hc' h0).mono fun e W' ⟨he, hj⟩ => ⟨he, .inl ⟨_, rfl, hj⟩⟩
  · exact values1_in F n h32 hro hn lp Bs n₀ g cap l hlen (hv g rfl) J Jx W hJ hY (Nat.le_trans hn₀ hW.size) hc' hr' h0

set_option maxRecDepth 100000 in
set_option maxHeartbeats 2000000 in
theorem appendseq_in (F : Fence) (n : Nat) (h30 : F.fn 30) (h32 : F.fn 32) (hro : F.round = none) (hn : 3 ≤ n) (Bs : Nat) (v : Value) (cap : Nat) (l : List Ask) (hlen : l.length ≤ 4096) (w : World) (hBs : Bs < w.heap.size)
    (hc : w.cell? ⟨Bs, 0, none⟩ = some v) (hr : Asks w v l cap) :
    CallsIn F n Try.prog 30 #[.slice none 0 0, .func (.func 32) #[] #[.pointer (some ⟨Bs, 0, none⟩)]] w fun e W' => ∃ v', e = .returned v' ∧ W'.ownsRow w.heap.size 28 6 v' l.length (cellsOf l) ∧ Below w.heap.size w W' := by
  have h1 : 1 ≤ n := by omega
  obtain ⟨i0, hi, hz0, hz1, hz2⟩ := info_parts info28
  refine callsIn_of_wp_marks Try.func30 rfl h30 ?_ hro
  simp only [Try.ntmps30, List.size_toArray, List.length_cons, List.length_nil, Nat.reduceAdd, Nat.reduceSub, Array.replicate_succ, Array.replicate_zero, List.push_toArray, List.append_toArray, List.nil_append, List.cons_append]
  gi_wp2
  have bO := Boxed.new w 37 (.slice none 0 0)
  have hB0 : Below w.heap.size w (w.alloc (.cells #[.slice none 0 0] 37)) := (Below.refl _ w).alloc (Nat.le_refl _) _
  have hr0 : Asks (w.alloc (.cells #[.slice none 0 0] 37)) v l cap := hr.kept (S := NoB) ((Kept.refl _ _).alloc _) (fun _ _ h => h)
  have hc0 := (hB0.cell (p := ⟨Bs, 0, none⟩) hBs).trans hc
  have hbl := hr.lt
  have hsz : (w.alloc (.cells #[.slice none 0 0] 37)).heap.size = w.heap.size + 1 := by simp
  obtain ⟨W0, hW0⟩ : ∃ W0, w.alloc (.cells #[.slice none 0 0] 37) = W0 := ⟨_, rfl⟩
  rw [hW0] at bO hB0 hr0 hc0 hsz ⊢
  clear hW0
  refine wpIn_rangeFunc_ownH hro h1 (gf := 32) (lb := #[.pointer (some ⟨Bs, 0, none⟩)]) rfl h32 (enters_of Try.func32 (by kernel_rfl) rfl)
    (values_stops F (n - 1) h32 hro (by omega) Bs w.heap.size v cap l (by unfold maxLen; omega) W0 (by omega) (by omega) hc0 hr0 hbl) belowK_t (belowK_b (by omega)) (Below.refl _ _) (fun _ => rfl)
    (fun pre W => (∃ v', Boxed W w.heap.size 37 v' ∧ W.ownsRow w.heap.size 28 6 v' pre.length (cellsOf pre) ∧ True) ∧ Below w.heap.size w W)
    (fun _ _ _ => False)
    (OwnFrom.and (Own.from (holdsRow_own w.heap.size w.heap.size 37 28 6 (fun pre => pre.length) (fun pre => cellsOf pre) (fun _ _ => True)) _) (ownFrom_below (Nat.le_refl _) (by omega)))
    (fun _ _ _ _ _ hs _ _ => hs)
    ⟨⟨_, bO, World.ownsRow_nil _ _ _ _, trivial⟩, hB0⟩
    (fun x a' W => ∃ Bx, w.heap.size < Bx ∧ W.heap[Bx]? = some (.cells x.arr 28 (0, 0)) ∧ a' = { tmps := #[.slice none 0 0, .func (.func 32) #[] #[.pointer (some ⟨Bs, 0, none⟩)], .pointer (some ⟨w.heap.size, 0, none⟩), undef, .slice none 0 0, .pointer (some ⟨Bx, 0, none⟩), .func (.func 32) #[] #[.pointer (some ⟨Bs, 0, none⟩)], .agg #[.int .i64 x.job, .int .i64 x.op, .int .i64 x.cart, .int .i64 x.pos, .int .i64 x.slot, .int .i64 x.born], undef, undef, undef, undef, undef], defers := [] })
    (fun x a' _ X Y row hs hg hr => by
      obtain ⟨Bx, h1, h2, h3⟩ := hs
      refine ⟨Bx, h1, (hg.block Bx (lt_of_heap h2) (fun e => ?_)).trans h2, h3⟩
      obtain ⟨_, o, ho, hc⟩ := hr Bx e.symm
      rw [h2] at ho; cases ho; cases hc)
    ?assign ?body ?done ?stop
  case assign =>
    rintro lp pre x W K ⟨⟨v', hv, hrow, _⟩, hB⟩ hK
    unfold Ask.val Ask.arr
    gi_wp2
    exact hK _ _ ((KeepsOthers.alloc _ _).from _) ((Below.refl _ W).alloc hB.size _) ⟨⟨v', hv.alloc _, hrow.alloc _, trivial⟩, hB.alloc hB.size _⟩ ⟨W.heap.size, hv.lt, heap_alloc_new W _, rfl⟩
  case body =>
    rintro lp pre x a' W hl ⟨r, hr'⟩ ⟨⟨v', hv, hrow, _⟩, hB⟩ ⟨Bx, hBx, bX, rfl⟩ hlt
    have hc := hv.cell
    obtain ⟨a0, a1, a2, a3, a4, a5⟩ := block_cells6 bX
    gi_wp2_with (gi_at_builtin; refine wpListIn_append_own _ rfl _ _ 37 rfl w.heap.size 28 i0 _ 6 48 Try.underlying37 hi hz0 hz1 hz2 rfl (by decide) _ _ _ rfl (hrow.alloc _) ⟨W.heap.size, 0, none⟩ 1 1 x.cells rfl rfl (news_alloc W x.arr 28 _ rfl) (cells_one x) (by unfold maxLen; omega) (by omega) (by have := hB.size; simp; omega) ?_; intro v1 w1 hown' hgrow _; obtain ⟨g', cap', rfl⟩ := ownsRow_succ hown'; obtain ⟨hv1, hv2, hr2, hk2, hb2⟩ := hv.appended (by decide) hrow hB.size (Nat.le_refl _) hown' hgrow; have hc1 := hv1.cell; have hf1 := hv1.frozen)
    exact ⟨hk2.from _, hb2, ⟨_, hv2, by rw [List.length_append, cellsOf_append, cellsOf_one]; exact hr2, trivial⟩, hB.trans hb2⟩
  case done =>
    rintro D ys W hD rfl ⟨⟨v', hv, hrow, _⟩, hB⟩ hK
    have hc := hv.cell
    gi_wp2
    refine ⟨by simp, .inl ⟨_, _, rfl, run_takeDeferred hK, ?_⟩⟩
    exact ⟨_, results_tmp rfl _ _ _, v', rfl, ownsRow_putObj hrow _ hK rfl, hB.trans (belowK_b (w := w) (Nat.le_refl _) W D _ _ (by omega) hK rfl rfl)⟩
  case stop =>
    rintro D c pre W _ _ h _
    exact h.elim
end Go.Proofs.Ytjagoljaocbdcaa
