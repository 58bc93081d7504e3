/- Walks: New, Push (and its row's push), Len, of the queue; New, Push of the reference. -/
import Derived.Test.YtjagoljaocbdcaaProg
import Derived.Test.YtjagoljaocbdcaaHeap
import Derived.WalkSpells
import Derived.WalkLawsBesides
import Derived.StillTailTactics
namespace Go.Proofs.Ytjagoljaocbdcaa
open Go.RowKit

/-- a request, its six numbers -/
structure Ask where
  job : Int
  op : Int
  cart : Int
  pos : Int
  slot : Int
  born : Int
def Ask.arr (a : Ask) : Array Value := #[.int .i64 a.job, .int .i64 a.op, .int .i64 a.cart, .int .i64 a.pos, .int .i64 a.slot, .int .i64 a.born]
def Ask.cells (a : Ask) : List Value := [.int .i64 a.job, .int .i64 a.op, .int .i64 a.cart, .int .i64 a.pos, .int .i64 a.slot, .int .i64 a.born]
def Ask.val (a : Ask) : Value := .agg a.arr
def cellsOf (l : List Ask) : List Value := l.flatMap Ask.cells
theorem cellsOf_nil : cellsOf [] = [] := rfl
theorem cellsOf_append (l m : List Ask) : cellsOf (l ++ m) = cellsOf l ++ cellsOf m := by simp [cellsOf]
theorem cellsOf_one (a : Ask) : cellsOf [a] = a.cells := by simp [cellsOf]
theorem cellsOf_length (l : List Ask) : (cellsOf l).length = l.length * 6 := by
  induction l with
  | nil => rfl
  | cons a l ih => simp only [cellsOf, List.flatMap_cons, List.length_append, List.length_cons] at ih ⊢; rw [ih]; simp [Ask.cells]; omega

/-- a slice of requests -/
def Asks (w : World) (v : Value) (l : List Ask) (cap : Nat) : Prop := Row w 28 6 v l.length cap (cellsOf l)

/-- the queue at block bq: its bound and its list; g: the block of the list -/
def QAt (w : World) (bq : Nat) (most : Int) (l : List Ask) (g : Option Nat) : Prop :=
  ∃ v cap, w.heap[bq]? = some (.cells #[.int .i64 most, v] 50 (0, 0)) ∧ Asks w v l cap ∧ v.ownBlock = g
/-- the reference's queue at block br -/
def RAt (w : World) (br : Nat) (most : Int) (l : List Ask) (g : Option Nat) : Prop :=
  ∃ v cap, w.heap[br]? = some (.cells #[v, .int .i64 most] 39 (0, 0)) ∧ Asks w v l cap ∧ v.ownBlock = g

/-- max(0, min(n, 4096)) -/
def clamp (n : Int) : Int := if n < 0 then 0 else if 4096 < n then 4096 else n

set_option maxHeartbeats 400000 in
theorem new_any (n : Int) (w : World) :
    Calls Try.prog 8 #[.int .i64 n] w fun e w' => e = .returned (.pointer (some ⟨w.heap.size, 0, none⟩)) ∧ w.alloc (.cells #[.int .i64 (clamp n), .slice none 0 0] 50) = w' := by
  by_cases h0 : n < 0
  · have e : clamp n = 0 := by unfold clamp; rw [if_pos h0]
    rw [e]; clear e
    go_enter Try.func8, Try.ntmps8
    go_wp2
    go_ret
    exact ⟨rfl, rfl⟩
  · by_cases h1 : 4096 < n
    · have e : clamp n = 4096 := by unfold clamp; rw [if_neg h0, if_pos h1]
      rw [e]; clear e
      go_enter Try.func8, Try.ntmps8
      go_wp2
      go_ret
      exact ⟨rfl, rfl⟩
    · have e : clamp n = n := by unfold clamp; rw [if_neg h0, if_neg h1]
      rw [e]; clear e
      by_cases h2 : n = 0
      · subst h2
        go_enter Try.func8, Try.ntmps8
        go_wp2
        go_ret
        exact ⟨rfl, rfl⟩
      · have h3 : 0 < n := by omega
        go_enter Try.func8, Try.ntmps8
        go_wp2
        go_ret
        exact ⟨rfl, rfl⟩
theorem info28 : (Try.prog.info? 28).map (fun i => (i.zero, i.size, i.bytes)) = some (some (.agg #[.int .i64 0, .int .i64 0, .int .i64 0, .int .i64 0, .int .i64 0, .int .i64 0]), 6, 48) := by kernel_rfl

theorem block_cells2 {w : World} {b : Nat} {x y : Value} {t : TypeId} (h : w.heap[b]? = some (.cells #[x, y] t (0, 0))) :
    b < w.heap.size ∧ w.cell? ⟨b, 0, none⟩ = some x ∧ w.cell? ⟨b, 1, none⟩ = some y ∧ w.frozen? ⟨b, 0, none⟩ = false ∧ w.frozen? ⟨b, 1, none⟩ = false :=
  ⟨lt_of_heap h, by rw [cell_of_row w b 0 _ t _ h]; rfl, by rw [cell_of_row w b 1 _ t _ h]; rfl, frozen_of_row w b 0 _ t h, frozen_of_row w b 1 _ t h⟩

set_option maxHeartbeats 400000 in
theorem rpush_full (bq : Nat) (most : Int) (l : List Ask) (gq : Option Nat) (a : Ask) (w : World) (h : QAt w bq most l gq) (hfull : most ≤ l.length) :
    Calls Try.prog 24 #[.pointer (some ⟨bq, 0, none⟩), a.val] w fun e w' => e = .returned (.bool false) ∧ Kept NoB w w' := by
  obtain ⟨v, cap, hb, hr, hg⟩ := h
  obtain ⟨ao, rfl⟩ := hr.form
  obtain ⟨hlt, c0, c1, f0, f1⟩ := block_cells2 hb
  unfold Ask.val Ask.arr
  go_enter Try.func24, Try.ntmps24
  go_wp2
  go_quiet (fail)
  go_wp2
  go_ret
  exact ⟨rfl, ((Kept.refl _ _).alloc _).drewN _⟩

theorem news_alloc (w1 : World) (cs : Array Value) (t : TypeId) (B : Nat) (hB : w1.heap.size = B) : ∀ j u, cs.toList[j]? = some u → (w1.alloc (.cells cs t)).cell? ((⟨B, 0, none⟩ : Addr).add j) = some u := by
  intro j u hu
  subst hB
  rw [addr_add, Nat.zero_add, cell_of_row _ _ j cs t (0, 0) (heap_alloc_new w1 _)]
  simpa using hu
theorem cells_one (a : Ask) : ∀ u ∈ a.cells, u.oneCell' = true := by
  intro u hu; simp [Ask.cells] at hu; rcases hu with rfl | rfl | rfl | rfl | rfl | rfl <;> rfl
theorem after_grown {w W w1 : World} {row : Option Nat} {b : Nat} {o : Obj} (hk : Kept NoB w W) (hg : W.grownBy w1 row) (hb : w.heap[b]? = some o) (hne : row ≠ some b) : w1.heap[b]? = some o :=
  (hg.block b (lt_of_heap (hk.heap hb (fun h => h))) (fun e => hne e.symm)).trans (hk.heap hb (fun h => h))
/-- behind an append onto the queue's list, and the store of the new slice into the queue -/
theorem queue_after {w W w1 : World} {bq : Nat} {most : Int} {l' : List Ask} {ao : Option Addr} {n n' cap g cap' : Nat} (hn : n' = l'.length) (hk : Kept NoB w W) (hb : w.heap[bq]? = some (.cells #[.int .i64 most, .slice ao n cap] 50 (0, 0)))
    (hne : (Value.slice ao n cap).ownBlock ≠ some bq) (hlt : bq < w.heap.size)
    (hrow : Row w1 28 6 (.slice (some ⟨g, 0, none⟩) n' cap') n' cap' (cellsOf l')) (hgrow : W.grownBy w1 (Value.slice ao n cap).ownBlock) (hat : (Value.slice ao n cap).ownBlock = some g ∨ g = W.heap.size) :
    QAt (w1.setCell ⟨bq, 1, none⟩ (.slice (some ⟨g, 0, none⟩) n' cap')) bq most l' (some g) ∧
    Kept (fun k => k = bq ∨ (Value.slice ao n cap).ownBlock = some k) w (w1.setCell ⟨bq, 1, none⟩ (.slice (some ⟨g, 0, none⟩) n' cap')) ∧
    (some g = (Value.slice ao n cap).ownBlock ∨ ∃ k, some g = some k ∧ w.heap.size ≤ k) := by
  have hb1 := (hgrow.block bq (lt_of_heap (hk.heap hb (fun h => h))) (fun e => hne e.symm)).trans (hk.heap hb (fun h => h))
  have hg : g ≠ bq := by
    rcases hat with h | h
    · intro e; exact hne (e ▸ h)
    · have := hk.size; omega
  subst hn
  refine ⟨⟨.slice (some ⟨g, 0, none⟩) l'.length cap', cap', ?_, ?_, rfl⟩, ?_, ?_⟩
  · exact heap_setCell_same w1 bq 1 _ 50 _ hb1
  · exact hrow.kept (S := fun k => k = bq) (Kept.setCell (S := fun k => k = bq) (Kept.refl _ _) (fun _ => rfl) _) (fun k hk' e => by simp [Value.ownBlock] at hk'; omega)
  · refine Kept.setCell ?_ (fun _ => .inl rfl) _
    exact (hk.mono (fun _ _ h => h.elim)).grown hgrow (fun k e _ => .inr e)
  · rcases hat with h | h
    · exact .inl h.symm
    · exact .inr ⟨g, rfl, by have := hk.size; omega⟩
theorem not_own {w : World} {b : Nat} {cs : Array Value} {t : TypeId} {v : Value} {n cap : Nat} {xs : List Value} {e : TypeId} {size : Nat} (hb : w.heap[b]? = some (.cells cs t (0, 0))) (ht : t ≠ e) (hr : Row w e size v n cap xs) : v.ownBlock ≠ some b := by
  rcases hr.2 with ⟨rfl, _⟩ | ⟨g, cur, rfl, hg, _⟩
  · simp [Value.ownBlock]
  · intro h
    simp [Value.ownBlock] at h
    subst h
    rw [hb] at hg
    simp at hg
    exact ht hg.2

set_option maxHeartbeats 1000000 in
theorem rpush_room (bq : Nat) (most : Int) (l : List Ask) (gq : Option Nat) (a : Ask) (w : World) (h : QAt w bq most l gq) (hroom : l.length < most) (hmost : most ≤ 4096) :
    Calls Try.prog 24 #[.pointer (some ⟨bq, 0, none⟩), a.val] w fun e w' => e = .returned (.bool true) ∧ ∃ g', QAt w' bq most (l ++ [a]) g' ∧ Kept (fun k => k = bq ∨ gq = some k) w w' ∧ (g' = gq ∨ ∃ k, g' = some k ∧ w.heap.size ≤ k) := by
  obtain ⟨v, cap, hb, hr, hg⟩ := h
  obtain ⟨ao, rfl⟩ := hr.form
  obtain ⟨hlt, c0, c1, f0, f1⟩ := block_cells2 hb
  obtain ⟨i0, hi, hz0, hz1, hz2⟩ := info_parts info28
  have hne := not_own hb (by decide) hr
  unfold Ask.val Ask.arr
  go_enter Try.func24, Try.ntmps24
  go_wp2
  go_quiet (fail)
  go_wp2
  go_region_law ((refine step_append_row rfl (.tmp 19) (.tmp 21) 37 rfl 28 i0 _ 6 48 Try.underlying37 hi hz0 hz1 hz2 rfl (by decide) (.slice ao l.length cap) l.length cap (cellsOf l) rfl (by exact hr.kept (S := NoB) (by repeat (first | with_reducible exact Kept.refl _ _ | with_reducible refine Kept.alloc ?_ _ | with_reducible refine Kept.drewN ?_ _ | with_reducible refine Kept.drew ?_)) (fun _ _ h => h)) _ 1 1 a.cells rfl rfl (by exact news_alloc _ a.arr 28 _ (by simp)) (cells_one a) (by decide) (by unfold maxLen; omega) (by omega) ?_; intro g cap' w1 hrow' hgrow hat; have hb1 := after_grown (by repeat (first | with_reducible exact Kept.refl _ _ | with_reducible refine Kept.alloc ?_ _ | with_reducible refine Kept.drewN ?_ _ | with_reducible refine Kept.drew ?_)) hgrow hb hne; obtain ⟨hlt1, d0, d1, e0, e1⟩ := block_cells2 hb1))
  all_goals
    go_wp2
    go_ret
    subst hg
    exact ⟨rfl, some _, queue_after (l' := l ++ [a]) (by simp) (by repeat (first | with_reducible exact Kept.refl _ _ | with_reducible refine Kept.alloc ?_ _ | with_reducible refine Kept.drewN ?_ _ | with_reducible refine Kept.drew ?_)) hb hne hlt (by rw [cellsOf_append, cellsOf_one]; exact hrow') hgrow hat⟩

/-- the queue's blocks -/
theorem QAt.lt {w : World} {bq : Nat} {most : Int} {l : List Ask} {g : Option Nat} (h : QAt w bq most l g) : bq < w.heap.size ∧ ∀ k, g = some k → k < w.heap.size ∧ k ≠ bq := by
  obtain ⟨v, cap, hb, hr, rfl⟩ := h
  exact ⟨lt_of_heap hb, fun k hk => ⟨hr.lt k hk, fun e => not_own hb (by decide) hr (e ▸ hk)⟩⟩
theorem RAt.lt {w : World} {bq : Nat} {most : Int} {l : List Ask} {g : Option Nat} (h : RAt w bq most l g) : bq < w.heap.size ∧ ∀ k, g = some k → k < w.heap.size ∧ k ≠ bq := by
  obtain ⟨v, cap, hb, hr, rfl⟩ := h
  exact ⟨lt_of_heap hb, fun k hk => ⟨hr.lt k hk, fun e => not_own hb (by decide) hr (e ▸ hk)⟩⟩
theorem QAt.kept {S : Nat → Prop} {w w' : World} {bq : Nat} {most : Int} {l : List Ask} {g : Option Nat} (h : QAt w bq most l g) (hk : Kept S w w') (h1 : ¬ S bq) (h2 : ∀ k, g = some k → ¬ S k) : QAt w' bq most l g := by
  obtain ⟨v, cap, hb, hr, rfl⟩ := h
  exact ⟨v, cap, hk.heap hb h1, hr.kept hk h2, rfl⟩
theorem RAt.kept {S : Nat → Prop} {w w' : World} {bq : Nat} {most : Int} {l : List Ask} {g : Option Nat} (h : RAt w bq most l g) (hk : Kept S w w') (h1 : ¬ S bq) (h2 : ∀ k, g = some k → ¬ S k) : RAt w' bq most l g := by
  obtain ⟨v, cap, hb, hr, rfl⟩ := h
  exact ⟨v, cap, hk.heap hb h1, hr.kept hk h2, rfl⟩

/-! Push -/
/-- what Push does to a list -/
def pushed (most : Int) (l : List Ask) (a : Ask) : List Ask := if l.length < most then l ++ [a] else l
set_option maxHeartbeats 400000 in
theorem push_any (bq : Nat) (most : Int) (l : List Ask) (gq : Option Nat) (a : Ask) (w : World) (h : QAt w bq most l gq) (hmost : most ≤ 4096) :
    Calls Try.prog 15 #[.pointer (some ⟨bq, 0, none⟩), a.val] w fun e w' => e = .returned (.bool (decide ((l.length : Int) < most))) ∧ ∃ g', QAt w' bq most (pushed most l a) g' ∧ Kept (fun k => k = bq ∨ gq = some k) w w' ∧ (g' = gq ∨ ∃ k, g' = some k ∧ w.heap.size ≤ k) := by
  by_cases hc : (l.length : Int) < most
  · have C : ∀ W, Kept NoB w W → Calls Try.prog 24 #[.pointer (some ⟨bq, 0, none⟩), a.val] W fun e w' => e = .returned (.bool true) ∧ ∃ g', QAt w' bq most (l ++ [a]) g' ∧ Kept (fun k => k = bq ∨ gq = some k) w w' ∧ (g' = gq ∨ ∃ k, g' = some k ∧ w.heap.size ≤ k) := by
      intro W hW
      refine (rpush_room bq most l gq a W (h.kept hW (fun h => h) (fun _ _ h => h)) hc hmost).mono ?_
      rintro e w' ⟨he, g', hq, hk, hg⟩
      exact ⟨he, g', hq, hW.of_none.trans hk (fun _ _ h => h), hg.imp id (fun ⟨k, hk1, hk2⟩ => ⟨k, hk1, Nat.le_trans hW.size hk2⟩)⟩
    have hp : pushed most l a = l ++ [a] := by unfold pushed; rw [if_pos hc]
    have hd : decide ((l.length : Int) < most) = true := by simpa using hc
    rw [hp, hd]
    have HC := Lib.hid C
    clear C hp hd h
    unfold Ask.val Ask.arr at HC ⊢
    go_enter Try.func15, Try.ntmps15
    go_wp2
    go_region_with ((go_at_call 24; refine (HC.out _ (by repeat (first | with_reducible exact Kept.refl _ _ | with_reducible refine Kept.alloc ?_ _ | with_reducible refine Kept.drewN ?_ _ | with_reducible refine Kept.drew ?_))).mono ?_; rintro e w' ⟨rfl, hw'⟩))
    all_goals (go_wp2; go_ret; exact ⟨rfl, hw'⟩)
  · have C : ∀ W, Kept NoB w W → Calls Try.prog 24 #[.pointer (some ⟨bq, 0, none⟩), a.val] W fun e w' => e = .returned (.bool false) ∧ ∃ g', QAt w' bq most l g' ∧ Kept (fun k => k = bq ∨ gq = some k) w w' ∧ (g' = gq ∨ ∃ k, g' = some k ∧ w.heap.size ≤ k) := by
      intro W hW
      refine (rpush_full bq most l gq a W (h.kept hW (fun h => h) (fun _ _ h => h)) (by omega)).mono ?_
      rintro e w' ⟨he, hk⟩
      have hk2 := Kept.then hW hk
      exact ⟨he, gq, h.kept hk2 (fun h => h) (fun _ _ h => h), hk2.of_none, .inl rfl⟩
    have hp : pushed most l a = l := by unfold pushed; rw [if_neg hc]
    have hd : decide ((l.length : Int) < most) = false := by simpa using hc
    rw [hp, hd]
    have HC := Lib.hid C
    clear C hp hd h
    unfold Ask.val Ask.arr at HC ⊢
    go_enter Try.func15, Try.ntmps15
    go_wp2
    go_region_with ((go_at_call 24; refine (HC.out _ (by repeat (first | with_reducible exact Kept.refl _ _ | with_reducible refine Kept.alloc ?_ _ | with_reducible refine Kept.drewN ?_ _ | with_reducible refine Kept.drew ?_))).mono ?_; rintro e w' ⟨rfl, hw'⟩))
    all_goals (go_wp2; go_ret; exact ⟨rfl, hw'⟩)
set_option maxHeartbeats 400000 in
theorem push_nil (a : Ask) (w : World) :
    Calls Try.prog 15 #[.pointer none, a.val] w fun e w' => e = .returned (.bool false) ∧ Kept NoB w w' := by
  unfold Ask.val Ask.arr
  go_enter Try.func15, Try.ntmps15
  go_wp2
  go_quiet (fail)
  go_wp2
  go_ret
  exact ⟨rfl, (by repeat (first | with_reducible exact Kept.refl _ _ | with_reducible refine Kept.alloc ?_ _ | with_reducible refine Kept.drewN ?_ _ | with_reducible refine Kept.drew ?_))⟩

/-! Len -/
set_option maxHeartbeats 400000 in
theorem len_any (bq : Nat) (most : Int) (l : List Ask) (gq : Option Nat) (w : World) (h : QAt w bq most l gq) :
    Calls Try.prog 17 #[.pointer (some ⟨bq, 0, none⟩)] w fun e w' => e = .returned (.int .i64 l.length) ∧ w = w' := by
  obtain ⟨v, cap, hb, hr, hg⟩ := h
  obtain ⟨ao, rfl⟩ := hr.form
  obtain ⟨hlt, c0, c1, f0, f1⟩ := block_cells2 hb
  go_enter Try.func17, Try.ntmps17
  go_wp2
  go_ret
  exact ⟨rfl, rfl⟩
set_option maxHeartbeats 400000 in
theorem len_nil (w : World) :
    Calls Try.prog 17 #[.pointer none] w fun e w' => e = .returned (.int .i64 0) ∧ w = w' := by
  go_enter Try.func17, Try.ntmps17
  go_wp2
  go_ret
  exact ⟨rfl, rfl⟩

/-! the reference's New and Push -/
set_option maxHeartbeats 400000 in
theorem ref_new_any (n : Int) (w : World) :
    Calls Try.prog 9 #[.int .i64 n] w fun e w' => e = .returned (.pointer (some ⟨w.heap.size, 0, none⟩)) ∧ w.alloc (.cells #[.slice none 0 0, .int .i64 (clamp n)] 39) = w' := by
  by_cases h0 : n < 0
  · have e : clamp n = 0 := by unfold clamp; rw [if_pos h0]
    rw [e]; clear e
    go_enter Try.func9, Try.ntmps9
    go_wp2
    go_ret
    exact ⟨rfl, rfl⟩
  · by_cases h1 : 4096 < n
    · have e : clamp n = 4096 := by unfold clamp; rw [if_neg h0, if_pos h1]
      rw [e]; clear e
      go_enter Try.func9, Try.ntmps9
      go_wp2
      go_ret
      exact ⟨rfl, rfl⟩
    · have e : clamp n = n := by unfold clamp; rw [if_neg h0, if_neg h1]
      rw [e]; clear e
      go_enter Try.func9, Try.ntmps9
      go_wp2
      go_ret
      exact ⟨rfl, rfl⟩
theorem clamp_le (n : Int) : 0 ≤ clamp n ∧ clamp n ≤ 4096 := by unfold clamp; (repeat' split) <;> omega

set_option maxHeartbeats 400000 in
theorem refpush_full (br : Nat) (most : Int) (l : List Ask) (gr : Option Nat) (a : Ask) (w : World) (h : RAt w br most l gr) (hfull : most ≤ l.length) :
    Calls Try.prog 16 #[.pointer (some ⟨br, 0, none⟩), a.val] w fun e w' => e = .returned (.bool false) ∧ Kept NoB w w' := by
  obtain ⟨v, cap, hb, hr, hg⟩ := h
  obtain ⟨ao, rfl⟩ := hr.form
  obtain ⟨hlt, c0, c1, f0, f1⟩ := block_cells2 hb
  unfold Ask.val Ask.arr
  go_enter Try.func16, Try.ntmps16
  go_wp2
  go_quiet (fail)
  go_wp2
  go_ret
  exact ⟨rfl, (by repeat (first | with_reducible exact Kept.refl _ _ | with_reducible refine Kept.alloc ?_ _ | with_reducible refine Kept.drewN ?_ _ | with_reducible refine Kept.drew ?_))⟩

theorem cells_all (l : List Ask) : ∀ u ∈ cellsOf l, u.oneCell' = true := by
  intro u hu
  simp only [cellsOf, List.mem_flatMap] at hu
  obtain ⟨a, _, hu⟩ := hu
  exact cells_one a u hu
theorem block_cells6 {w : World} {b : Nat} {a : Ask} {t : TypeId} (h : w.heap[b]? = some (.cells a.arr t (0, 0))) :
    w.cell? ⟨b, 0, none⟩ = some (.int .i64 a.job) ∧ w.cell? ⟨b, 1, none⟩ = some (.int .i64 a.op) ∧ w.cell? ⟨b, 2, none⟩ = some (.int .i64 a.cart) ∧ w.cell? ⟨b, 3, none⟩ = some (.int .i64 a.pos) ∧ w.cell? ⟨b, 4, none⟩ = some (.int .i64 a.slot) ∧ w.cell? ⟨b, 5, none⟩ = some (.int .i64 a.born) :=
  ⟨by rw [cell_of_row w b 0 _ t _ h]; rfl, by rw [cell_of_row w b 1 _ t _ h]; rfl, by rw [cell_of_row w b 2 _ t _ h]; rfl, by rw [cell_of_row w b 3 _ t _ h]; rfl, by rw [cell_of_row w b 4 _ t _ h]; rfl, by rw [cell_of_row w b 5 _ t _ h]; rfl⟩

end Go.Proofs.Ytjagoljaocbdcaa
