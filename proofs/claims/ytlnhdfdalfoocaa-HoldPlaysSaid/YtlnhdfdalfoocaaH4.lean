/- Walks: the ring's iterator (all), inside a fence. -/
import Derived.RangeFuncNested
import Derived.RangeFuncBox
import Derived.RangeFuncBound
import Derived.RangeFuncCalls
import Derived.RangeFuncLeaves
import Derived.Shelf.Abstract
import Derived.Shelf.RegionOpen
import Derived.OwnWalkIn
import Derived.TacticsInMore
import Derived.LoopNIn
import Derived.LoopIn
import Derived.Maps.AppendAt
import Derived.IntWalk
import Derived.Test.YtlnhdfdalfoocaaH3
namespace Go.Proofs.Ytlnhdfdalfoocaa
open Go.RowKit Go.Shelf

attribute [local go_sem] Oper.semAt_some

set_option maxRecDepth 100000 in
set_option maxHeartbeats 2000000 in
theorem all1_in (F : Fence) (n : Nat) (h35 : F.fn 35) (hro : F.round = none) (hn : 1 ≤ n) (lp Bs bh n₀ g cap : Nat) (l : List En) (hlen : l.length ≤ maxLen) (hg : g < n₀) (J Jx : List En → World → Prop)
    (W : World) (hJa : AbidesFrom W.heap.size J)
    (hY : ∀ pre x W, J pre W → pre.length < l.length → YieldAt F (n - 1) Try.prog lp x.arr W fun e W' =>
      (e = .returned (.bool true) ∧ J (pre ++ [x]) W' ∧ Below n₀ W W') ∨ (e = .returned (.bool false) ∧ Jx (pre ++ [x]) W'))
    (hn₀ : n₀ ≤ W.heap.size) (hBs : W.cell? ⟨Bs, 0, none⟩ = some (.pointer (some ⟨bh, 0, none⟩))) (hbh : W.cell? ⟨bh, 0, none⟩ = some (.slice (some ⟨g, 0, none⟩) l.length cap)) (hr : Row W 57 2 (.slice (some ⟨g, 0, none⟩) l.length cap) l.length cap (ecells l)) (h0 : J [] W) :
    CallsIn F n Try.prog 35 #[.func (.yield lp) #[] #[], .pointer (some ⟨Bs, 0, none⟩)] W fun e W' => (∃ v, e = .returned v) ∧
      ((∃ ys, ys = l ∧ J ys W') ∨ (∃ pre, pre <+: l ∧ Jx pre W')) := by
  unfold maxLen at hlen
  refine callsIn_of_wp Try.func35 rfl h35 ?_ hro
  simp only [Try.ntmps35, List.size_toArray, List.length_cons, List.length_nil, Nat.reduceAdd, Nat.reduceSub, Array.replicate_succ, Array.replicate_zero, List.push_toArray, List.append_toArray, List.nil_append, List.cons_append]
  gi_wp2
  gi_loopw [10] (fun i wr => ∃ k : Nat, k ≤ l.length ∧ i = .int .i64 k ∧ J (l.take k) wr ∧ Below n₀ W wr)
    (fun i _ => l.length - (intOf i).toNat)
  case atStart => exact ⟨0, Nat.zero_le _, rfl, h0, Below.refl _ _⟩
  case round =>
    obtain ⟨k, hk, rfl, hJs, hnx⟩ := hrel
    by_cases hlt : k < l.length
    · have hJs' := hJa _ _ _ none hJs (World.grownBy_alloc wr (.cells (l[k]).arr 57) none) (fun r e => by cases e)
      obtain ⟨fn, tmps, assign, body, hy, hR⟩ := hY _ l[k] _ hJs' (by rw [List.length_take]; omega)
      have hrw : Row wr 57 2 (.slice (some ⟨g, 0, none⟩) l.length cap) l.length cap (ecells l) := hr.kept (Kept.of_below hnx) (fun b hb h => by simp [Value.ownBlock] at hb; omega)
      obtain ⟨a0, a1⟩ := ents_get wr g _ cap k l hrw hlt
      have HT := Lib.hid (List.take_succ_eq_append_getElem hlt)
      generalize l[k] = x at a0 a1 hy hR HT
      unfold En.arr at hy hR
      clear hrw hJs'
      gi_wp2
      refine hR.mono ?_
      rintro e W3 (⟨rfl, hJ3, hk3⟩ | ⟨rfl, hJx3⟩)
      · gi_wp2
        go_roundw
        case rel => exact ⟨k + 1, by omega, by simp, by rw [HT.out]; exact hJ3, hnx.trans (((Below.refl n₀ wr).alloc (Nat.le_trans hn₀ hnx.size) _).trans hk3)⟩
        case measure => simp [intOf]; omega
      · gi_wp2
        refine bodyPost_ret (results_none rfl _ _ _) rfl ?_
        exact ⟨⟨_, rfl⟩, .inr ⟨l.take (k + 1), List.take_prefix _ _, by rw [HT.out]; exact hJx3⟩⟩
    · have hkl : k = l.length := by omega
      gi_wp2
      go_end0
      exact ⟨⟨_, rfl⟩, .inl ⟨_, by rw [hkl, List.take_length], hJs⟩⟩

set_option maxRecDepth 100000 in
set_option maxHeartbeats 1000000 in
theorem all1_nil_in (F : Fence) (n : Nat) (h35 : F.fn 35) (hro : F.round = none) (lp Bs bh : Nat) (J : List En → World → Prop) (W : World) (hBs : W.cell? ⟨Bs, 0, none⟩ = some (.pointer (some ⟨bh, 0, none⟩))) (hbh : W.cell? ⟨bh, 0, none⟩ = some (.slice none 0 0)) (h0 : J [] W) :
    CallsIn F n Try.prog 35 #[.func (.yield lp) #[] #[], .pointer (some ⟨Bs, 0, none⟩)] W fun e W' => (∃ v, e = .returned v) ∧ J [] W' := by
  refine callsIn_of_wp Try.func35 rfl h35 ?_ hro
  simp only [Try.ntmps35, List.size_toArray, List.length_cons, List.length_nil, Nat.reduceAdd, Nat.reduceSub, Array.replicate_succ, Array.replicate_zero, List.push_toArray, List.append_toArray, List.nil_append, List.cons_append]
  gi_wp2
  gi_loopw [10] (fun i wr => i = .int .i64 0 ∧ J [] wr) (fun _ _ => 0)
  case atStart => exact ⟨rfl, h0⟩
  case round =>
    obtain ⟨rfl, hJs⟩ := hrel
    gi_wp2
    go_end0
    exact ⟨⟨_, rfl⟩, hJs⟩

set_option maxHeartbeats 1000000 in
theorem all_in (F : Fence) (n : Nat) (h30 : F.fn 30) (hro : F.round = none) (a : Option Addr) (w : World) :
    CallsIn F n Try.prog 30 #[.pointer a] w fun e w' => e = .returned (.func (.func 35) #[] #[.pointer (some ⟨w.heap.size, 0, none⟩)]) ∧ w.alloc (.cells #[.pointer a] 66) = w' := by
  refine callsIn_of_wp Try.func30 rfl h30 ?_ hro
  simp only [Try.ntmps30, List.size_toArray, List.length_cons, List.length_nil, Nat.reduceAdd, Nat.reduceSub, Array.replicate_succ, Array.replicate_zero, List.push_toArray, List.append_toArray, List.nil_append, List.cons_append]
  gi_wp2
  go_ret
  exact ⟨rfl, rfl⟩

theorem all_stops (F : Fence) (n : Nat) (h35 : F.fn 35) (hro : F.round = none) (hn : 1 ≤ n) (Bs bh n₀ : Nat) (v : Value) (cap : Nat) (l : List En) (hlen : l.length ≤ maxLen) (w : World) (hn₀ : n₀ ≤ w.heap.size)
    (hBs : w.cell? ⟨Bs, 0, none⟩ = some (.pointer (some ⟨bh, 0, none⟩))) (hbh : w.cell? ⟨bh, 0, none⟩ = some v) (hr : Ents w v l cap) (hv : ∀ g, v.ownBlock = some g → g < n₀) :
    SeqStopsK F n Try.prog 35 #[.pointer (some ⟨Bs, 0, none⟩)] (fun x : En => x.arr) (Below n₀) (fun ys => ys = l) (fun pre => pre <+: l) l.length w := fun lp J Jx W hW hJ _ hY h0 => by
  have hc' := (Kept.of_below_all hW).cell hBs (fun h => h)
  have hc2 := (Kept.of_below_all hW).cell hbh (fun h => h)
  have hr' : Ents W v l cap := hr.kept (Kept.of_below_all hW) (fun _ _ h => h)
  rcases hr'.2 with ⟨rfl, h, _⟩ | ⟨g, cur, rfl, _⟩
  · obtain rfl : l = [] := List.eq_nil_of_length_eq_zero h
    exact (all1_nil_in F n h35 hro lp Bs bh J W hc' hc2 h0).mono fun e W' ⟨he, hj⟩ => ⟨he, .inl ⟨_, rfl, hj⟩⟩
  · exact all1_in F n h35 hro hn lp Bs bh n₀ g cap l hlen (hv g rfl) J Jx W hJ hY (Nat.le_trans hn₀ hW.size) hc' hc2 hr' h0

/-- the bytes that are held -/
def total (l : List En) : Nat := (l.map fun e => e.data.length).sum
/-- the same, as the loop counts it -/
def wtot (l : List En) : Int := l.foldl (fun n x => wrap64 (n + (x.data.length : Int))) 0
theorem wtot_snoc (l : List En) (x : En) : wtot (l ++ [x]) = wrap64 (wtot l + (x.data.length : Int)) := by simp [wtot, List.foldl_append]
theorem total_snoc (l : List En) (x : En) : total (l ++ [x]) = total l + x.data.length := by simp [total]
theorem total_take (l : List En) (k : Nat) : total (l.take k) ≤ total l := by
  have h : total l = total (l.take k) + total (l.drop k) := by
    have e := List.take_append_drop k l
    conv => lhs; rw [← e]
    unfold total
    rw [List.map_append, List.sum_append]
  omega
theorem wtot_eq (l : List En) (h : total l ≤ 1000000) : wtot l = total l := by
  have key : ∀ k, k ≤ l.length → wtot (l.take k) = total (l.take k) := by
    intro k
    induction k with
    | zero => intro _; rfl
    | succ k ih =>
      intro hk
      have e := List.take_succ_eq_append_getElem (l := l) (i := k) (by omega)
      have ht := total_take l (k + 1)
      rw [e, total_snoc] at ht
      rw [e, wtot_snoc, total_snoc, ih (by omega)]
      rw [IntWalk.wrap64_in _ ⟨by omega, by omega⟩]
      simp
  have := key l.length (Nat.le_refl _)
  rwa [List.take_length] at this

set_option maxRecDepth 100000 in
set_option maxHeartbeats 2000000 in
theorem used_in (F : Fence) (n : Nat) (h16 : F.fn 16) (h30 : F.fn 30) (h35 : F.fn 35) (hro : F.round = none) (hn : 4 ≤ n) (bh : Nat) (quota : Int) (l : List En) (gq : Option Nat) (hlen : l.length ≤ 4096) (w : World) (h : HAt w bh quota l gq) (ht : total l ≤ 1000000) :
    CallsIn F n Try.prog 16 #[.pointer (some ⟨bh, 0, none⟩)] w fun e W' => e = .returned (.int .i64 (total l)) ∧ Below w.heap.size w W' := by
  have h1 : 1 ≤ n := by omega
  have HT := Lib.hid (wtot_eq l ht)
  clear ht
  refine callsIn_of_wp_marks Try.func16 rfl h16 ?_ hro
  simp only [Try.ntmps16, List.size_toArray, List.length_cons, List.length_nil, Nat.reduceAdd, Nat.reduceSub, Array.replicate_succ, Array.replicate_zero, List.push_toArray, List.append_toArray, List.nil_append, List.cons_append]
  gi_wp2_with (gi_at_call 30; refine (all_in F (n - 1) h30 hro _ _).mono ?_; rintro e w' ⟨rfl, rfl⟩)
  obtain ⟨v, cap, hb, hr, hg, he⟩ := h
  have bO := (Boxed.new w 3 (.int .i64 0)).alloc (.cells #[.pointer (some ⟨bh, 0, none⟩)] 66)
  have hB0 : Below w.heap.size w ((w.alloc (.cells #[.int .i64 0] 3)).alloc (.cells #[.pointer (some ⟨bh, 0, none⟩)] 66)) := ((Below.refl _ w).alloc (Nat.le_refl _) _).alloc (by simp) _
  have hK0 := Kept.of_below_all hB0
  have hr0 : Ents _ v l cap := hr.kept hK0 (fun _ _ h => h)
  have hc0 := hK0.cell (block_cells2 hb).2.1 (fun h => h)
  have hBs : ((w.alloc (.cells #[.int .i64 0] 3)).alloc (.cells #[.pointer (some ⟨bh, 0, none⟩)] 66)).cell? ⟨w.heap.size + 1, 0, none⟩ = some (.pointer (some ⟨bh, 0, none⟩)) := by
    have := (Boxed.new (w.alloc (.cells #[.int .i64 0] 3)) 66 (.pointer (some ⟨bh, 0, none⟩))).cell
    have e : (w.alloc (.cells #[.int .i64 0] 3)).heap.size = w.heap.size + 1 := by simp
    rw [e] at this
    exact this
  have hbl := hr.lt
  have hsz : ((w.alloc (.cells #[.int .i64 0] 3)).alloc (.cells #[.pointer (some ⟨bh, 0, none⟩)] 66)).heap.size = w.heap.size + 2 := by simp
  obtain ⟨W0, hW0⟩ : ∃ W0, (w.alloc (.cells #[.int .i64 0] 3)).alloc (.cells #[.pointer (some ⟨bh, 0, none⟩)] 66) = W0 := ⟨_, rfl⟩
  rw [hW0] at bO hB0 hr0 hc0 hsz hBs ⊢
  clear hW0 hK0
  refine wpIn_rangeFunc_ownH hro h1 (gf := 35) (lb := #[.pointer (some ⟨w.heap.size + 1, 0, none⟩)]) rfl h35 (enters_of Try.func35 (by kernel_rfl) rfl)
    (all_stops F (n - 1) h35 hro (by omega) (w.heap.size + 1) bh w.heap.size v cap l (by unfold maxLen; omega) W0 (by omega) hBs hc0 hr0 hbl) belowK_t (belowK_b (by omega)) (Below.refl _ _) (fun _ => rfl)
    (fun pre W => Boxed W w.heap.size 3 (.int .i64 (wtot pre)) ∧ Below w.heap.size w W)
    (fun _ _ _ => False)
    (OwnFrom.and (Own.from (boxed_own w.heap.size 3 (fun pre => .int .i64 (wtot pre))) _) (ownFrom_below (Nat.le_refl _) (by omega)))
    (fun _ _ _ _ _ hs _ _ => hs)
    ⟨bO, hB0⟩
    (fun x a' _ => a' = { tmps := #[.pointer (some ⟨bh, 0, none⟩), undef, .int .i64 0, .pointer (some ⟨w.heap.size, 0, none⟩), undef, .slice x.ao x.data.length x.cap, .pointer (some ⟨bh, 0, none⟩), .bool false, .pointer (some ⟨bh, 0, none⟩), .pointer (some ⟨bh, 0, none⟩), .pointer (some ⟨bh, 0, none⟩), .func (.func 35) #[] #[.pointer (some ⟨w.heap.size + 1, 0, none⟩)], .string x.key, .slice x.ao x.data.length x.cap, undef, undef, undef, undef, undef], defers := [] })
    (fun x a' _ X Y row hs hg hr => hs)
    ?assign ?body ?done ?stop
  case assign =>
    rintro lp pre x W K ⟨hv, hB⟩ hK
    unfold En.arr
    gi_wp2
    exact hK _ _ (KeepsFrom.refl _ _) (Below.refl _ W) ⟨hv, hB⟩ rfl
  case body =>
    rintro lp pre x a' W hl ⟨r, hr'⟩ ⟨hv, hB⟩ rfl hlt
    have hc := hv.cell
    have hf := hv.frozen
    have HS := Lib.hid (wtot_snoc pre x)
    gi_wp2
    exact ⟨(KeepsOthers.setCell W ⟨w.heap.size, 0, none⟩ _).from _, (Below.refl w.heap.size W).setCell (show w.heap.size ≤ w.heap.size from Nat.le_refl _) _, by rw [HS.out]; exact hv.set _, hB.setCell (show w.heap.size ≤ w.heap.size from Nat.le_refl _) _⟩
  case done =>
    rintro D ys W hD rfl ⟨hv, hB⟩ hK
    have hc := hv.cell
    gi_wp2
    refine ⟨by simp, .inl ⟨_, _, rfl, run_takeDeferred hK, ?_⟩⟩
    exact ⟨_, results_tmp rfl _ _ _, by rw [← HT.out]; rfl, hB.trans (belowK_b (w := w) (Nat.le_refl _) W D _ _ (by omega) hK rfl rfl)⟩
  case stop =>
    rintro D c pre W _ _ h _
    exact h.elim
end Go.Proofs.Ytlnhdfdalfoocaa
