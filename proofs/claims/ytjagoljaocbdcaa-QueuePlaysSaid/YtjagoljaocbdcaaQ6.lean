/- Walks: Clip, Collect, each, and the queue's All. -/
import Derived.Test.YtjagoljaocbdcaaQ5
namespace Go.Proofs.Ytjagoljaocbdcaa
open Go.RowKit

theorem appendseq_any (Bs : Nat) (v : Value) (cap : Nat) (l : List Ask) (hlen : l.length ≤ 4096) (w : World) (hBs : Bs < w.heap.size) (hc : w.cell? ⟨Bs, 0, none⟩ = some v) (hr : Asks w v l cap) :
    Calls Try.prog 30 #[.slice none 0 0, .func (.func 32) #[] #[.pointer (some ⟨Bs, 0, none⟩)]] w fun e W' => ∃ v', e = .returned v' ∧ W'.ownsRow w.heap.size 28 6 v' l.length (cellsOf l) ∧ Below w.heap.size w W' :=
  callsIn_wide.1 (appendseq_in Fence.wide 6 trivial trivial rfl (by decide) Bs v cap l hlen w hBs hc hr)
theorem values_any (a : Option Addr) (len cap : Nat) (w : World) :
    Calls Try.prog 31 #[.slice a len cap] w fun e w' => e = .returned (.func (.func 32) #[] #[.pointer (some ⟨w.heap.size, 0, none⟩)]) ∧ w' = w.alloc (.cells #[.slice a len cap] 37) :=
  callsIn_wide.1 (values_in Fence.wide 6 trivial rfl a len cap w)

set_option maxHeartbeats 400000 in
theorem collect_any (Bs : Nat) (v : Value) (cap : Nat) (l : List Ask) (hlen : l.length ≤ 4096) (w : World) (hBs : Bs < w.heap.size) (hc : w.cell? ⟨Bs, 0, none⟩ = some v) (hr : Asks w v l cap) :
    Calls Try.prog 26 #[.func (.func 32) #[] #[.pointer (some ⟨Bs, 0, none⟩)]] w fun e W' => ∃ v', e = .returned v' ∧ W'.ownsRow w.heap.size 28 6 v' l.length (cellsOf l) ∧ Below w.heap.size w W' := by
  have H := Lib.hid (appendseq_any Bs v cap l hlen w hBs hc hr)
  clear hr hc hBs
  go_enter Try.func26, Try.ntmps26
  go_wp2_with fail
  refine H.out.mono ?_
  rintro e w1 ⟨v', rfl, h1, h2⟩
  go_wp2_with fail
  go_ret
  exact ⟨v', rfl, h1, h2⟩

set_option maxHeartbeats 400000 in
theorem each_any (bq : Nat) (most : Int) (l : List Ask) (gq : Option Nat) (w : World) (h : QAt w bq most l gq) :
    Calls Try.prog 27 #[.pointer (some ⟨bq, 0, none⟩)] w fun e w' => ∃ v cap, e = .returned (.func (.func 32) #[] #[.pointer (some ⟨w.heap.size, 0, none⟩)]) ∧ w' = w.alloc (.cells #[v] 37) ∧ Asks w v l cap := by
  obtain ⟨v, cap, hb, hr, hg⟩ := h
  obtain ⟨ao, rfl⟩ := hr.form
  obtain ⟨hlt, c0, c1, f0, f1⟩ := block_cells2 hb
  have HR := Lib.hid hr
  clear hr hb
  go_enter Try.func27, Try.ntmps27
  go_wp2_with (go_at_call 31; refine (values_any _ _ _ _).mono ?_; rintro e w' ⟨rfl, rfl⟩)
  go_ret
  exact ⟨_, _, rfl, rfl, HR.out⟩

set_option maxHeartbeats 400000 in
theorem clip_any (ao : Option Addr) (n cap : Nat) (xs : List Value) (w : World) (hr : Row w 28 6 (.slice ao n cap) n cap xs) (hm : n ≤ 4096) :
    Calls Try.prog 25 #[.slice ao n cap] w fun e w' => e = .returned (.slice ao n n) ∧ w = w' ∧ Row w 28 6 (.slice ao n n) n n xs := by
  have hc : n ≤ cap ∧ Row w 28 6 (.slice ao n n) n n xs := by
    rcases hr.2 with ⟨h, rfl, rfl⟩ | ⟨g, cur, hv, hg, h1, h2, h3, h4⟩
    · exact ⟨Nat.le_refl _, hr⟩
    · cases hv
      exact ⟨h1, hr.1, .inr ⟨g, cur, rfl, hg, Nat.le_refl _, by unfold maxLen; omega, Nat.le_trans (Nat.mul_le_mul_right _ h1) h3, h4⟩⟩
  obtain ⟨hnc, hr2⟩ := hc
  have HR := Lib.hid hr2
  clear hr hr2
  by_cases h0 : n = 0
  · subst h0
    go_enter Try.func25, Try.ntmps25
    go_wp2
    go_ret
    exact ⟨rfl, rfl, HR.out⟩
  · go_enter Try.func25, Try.ntmps25
    go_wp2
    go_ret
    exact ⟨rfl, rfl, HR.out⟩

/-- a slice of the call's own, the list's requests in it -/
def Fresh (w w' : World) (v : Value) (l : List Ask) : Prop := (∃ ao, v = .slice ao l.length l.length) ∧ Asks w' v l l.length ∧ Kept NoB w w' ∧ ∀ g, v.ownBlock = some g → w.heap.size ≤ g

set_option maxHeartbeats 400000 in
theorem all_nil (w : World) :
    Calls Try.prog 19 #[.pointer none] w fun e w' => e = .returned (.slice none 0 0) ∧ w = w' := by
  go_enter Try.func19, Try.ntmps19
  go_wp2
  go_ret
  exact ⟨rfl, rfl⟩
set_option maxHeartbeats 400000 in
theorem all_any (bq : Nat) (most : Int) (l : List Ask) (gq : Option Nat) (w : World) (h : QAt w bq most l gq) (hlen : l.length ≤ 4096) :
    Calls Try.prog 19 #[.pointer (some ⟨bq, 0, none⟩)] w fun e w' => ∃ v, e = .returned v ∧ Fresh w w' v l := by
  have hlt := h.lt.1
  have HE := Lib.hid (each_any bq most l gq w h)
  clear h
  go_enter Try.func19, Try.ntmps19
  go_wp2_with fail
  refine HE.out.mono ?_
  rintro e w1 ⟨v, cap, rfl, rfl, hr⟩
  have hr1 : Asks (w.alloc (.cells #[v] 37)) v l cap := hr.kept (S := NoB) ((Kept.refl _ _).alloc _) (fun _ _ h => h)
  have hc1 : (w.alloc (.cells #[v] 37)).cell? ⟨w.heap.size, 0, none⟩ = some v := by rw [cell_of_row _ _ 0 _ 37 _ (heap_alloc_new w _)]; rfl
  have HC := Lib.hid (collect_any w.heap.size v cap l hlen (w.alloc (.cells #[v] 37)) (by simp) hc1 hr1)
  clear hr hr1 hc1
  go_wp2_with fail
  refine HC.out.mono ?_
  rintro e w2 ⟨v', rfl, hown, hbel⟩
  obtain ⟨cap', hrow⟩ := Row.own hown
  have hfr : ∀ g, v'.ownBlock = some g → w.heap.size ≤ g := fun g hg => by have := (hown.lt g hg).1; simp at this; omega
  have hk : Kept NoB w w2 := (show Kept NoB w _ from (by repeat (first | with_reducible exact Kept.refl _ _ | with_reducible refine Kept.alloc ?_ _ | with_reducible refine Kept.drewN ?_ _ | with_reducible refine Kept.drew ?_))).trans (Kept.of_below_all hbel) (fun _ _ h => h)
  obtain ⟨ao, rfl⟩ := hrow.form
  have HL := Lib.hid (clip_any ao l.length cap' (cellsOf l) w2 hrow hlen)
  clear hown hbel hrow
  go_wp2_with fail
  refine HL.out.mono ?_
  rintro e w3 ⟨rfl, rfl, hr3⟩
  have hfr' : ∀ g, (Value.slice ao l.length l.length).ownBlock = some g → w.heap.size ≤ g := fun g hg => hfr g (by rw [← hg]; cases ao <;> rfl)
  have HF : Fresh w w2 (.slice ao l.length l.length) l := ⟨⟨ao, rfl⟩, hr3, hk, hfr'⟩
  have HF' := Lib.hid HF
  clear HF hr3 hk hfr hfr'
  go_wp2_with fail
  go_ret
  exact ⟨_, rfl, HF'.out⟩

/-! Same and Alike -/
/-- are two requests one? -/
def sameB (a b : Ask) : Bool := a.job == b.job && a.op == b.op && a.cart == b.cart && a.pos == b.pos && a.slot == b.slot && a.born == b.born
theorem sameB_iff (a b : Ask) : sameB a b = true ↔ a = b := by
  cases a; cases b
  simp only [sameB, Bool.and_eq_true, beq_iff_eq, Ask.mk.injEq, and_assoc]
theorem sameB_self (a : Ask) : sameB a a = true := (sameB_iff a a).2 rfl
set_option maxHeartbeats 400000 in
theorem same_self (a : Ask) (w : World) :
    Calls Try.prog 12 #[a.val, a.val] w fun e w' => e = .returned (.bool true) ∧ Kept NoB w w' := by
  unfold Ask.val Ask.arr
  go_enter Try.func12, Try.ntmps12
  go_wp2
  go_ret
  exact ⟨rfl, (by repeat (first | with_reducible exact Kept.refl _ _ | with_reducible refine Kept.alloc ?_ _ | with_reducible refine Kept.drewN ?_ _ | with_reducible refine Kept.drew ?_))⟩

set_option maxHeartbeats 1000000 in
/-- two slices of the same requests are alike -/
theorem alike_self (v1 v2 : Value) (c1 c2 : Nat) (l : List Ask) (w : World) (h1 : Asks w v1 l c1) (h2 : Asks w v2 l c2) (hlen : l.length ≤ 4096) :
    Calls Try.prog 18 #[v1, v2] w fun e w' => e = .returned (.bool true) ∧ Kept NoB w w' := by
  obtain ⟨a1, rfl⟩ := h1.form
  obtain ⟨a2, rfl⟩ := h2.form
  go_enter Try.func18, Try.ntmps18
  go_wp2_with fail
  go_loopw [5] (fun i wr => ∃ k : Nat, k ≤ l.length ∧ i = .int .i64 k ∧ Kept NoB w wr) (fun i _ => l.length - (intOf i).toNat)
  case atStart => exact ⟨0, Nat.zero_le _, rfl, (by repeat (first | with_reducible exact Kept.refl _ _ | with_reducible refine Kept.alloc ?_ _ | with_reducible refine Kept.drewN ?_ _ | with_reducible refine Kept.drew ?_))⟩
  case round =>
    obtain ⟨k, hk, rfl, hkk⟩ := hrel
    by_cases hlt : k < l.length
    · have r1 : Asks wr _ l c1 := h1.kept hkk (fun _ _ h => h)
      have r2 : Asks wr _ l c2 := h2.kept hkk (fun _ _ h => h)
      rcases r1.2 with ⟨_, h, _⟩ | ⟨g1, cur1, hv1, _⟩
      · omega
      rcases r2.2 with ⟨_, h, _⟩ | ⟨g2, cur2, hv2, _⟩
      · omega
      cases hv1
      cases hv2
      obtain ⟨x0, x1, x2, x3, x4, x5⟩ := asks_get wr g1 _ c1 k l r1 hlt
      obtain ⟨y0, y1, y2, y3, y4, y5⟩ := asks_get wr g2 _ c2 k l r2 hlt
      have hlti : (k : Int) < (l.length : Int) := by omega
      have hk0 : (0 : Int) ≤ (k : Int) := by omega
      generalize l[k] = x at x0 x1 x2 x3 x4 x5 y0 y1 y2 y3 y4 y5
      have HS := Lib.hid (fun W => same_self x W)
      unfold Ask.val Ask.arr at HS
      clear r1 r2 h1 h2
      go_wp2_with fail
      go_region_with ((go_at_call 12; refine (HS.out _).mono ?_; rintro e w' ⟨rfl, hw'⟩))
      all_goals
        go_wp2
        go_roundw
        case rel => exact ⟨k + 1, by omega, by go_num, (hkk.drew).then hw'⟩
        case measure => simp [intOf]; omega
    · go_wp2_with fail
      go_ret
      exact ⟨rfl, hkk⟩
end Go.Proofs.Ytjagoljaocbdcaa
