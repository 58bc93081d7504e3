/- Walks: the queue's Take. -/
import Derived.Test.YtjagoljaocbdcaaQ3
namespace Go.Proofs.Ytjagoljaocbdcaa
open Go.RowKit

def Ask.zero : Ask := ⟨0, 0, 0, 0, 0, 0⟩
theorem asks_get (w : World) (g n cap i : Nat) (l : List Ask) (hr : Row w 28 6 (.slice (some ⟨g, 0, none⟩) n cap) n cap (cellsOf l)) (hi : i < l.length) :
    w.cell? ⟨g, i * 6, none⟩ = some (.int .i64 l[i].job) ∧ w.cell? ⟨g, i * 6 + 1, none⟩ = some (.int .i64 l[i].op) ∧ w.cell? ⟨g, i * 6 + 2, none⟩ = some (.int .i64 l[i].cart) ∧
    w.cell? ⟨g, i * 6 + 3, none⟩ = some (.int .i64 l[i].pos) ∧ w.cell? ⟨g, i * 6 + 4, none⟩ = some (.int .i64 l[i].slot) ∧ w.cell? ⟨g, i * 6 + 5, none⟩ = some (.int .i64 l[i].born) := by
  have key : ∀ j u, l[i].cells[j]? = some u → w.cell? ⟨g, i * 6 + j, none⟩ = some u := by
    intro j u hu
    obtain ⟨_, ao, c, he, _, hc⟩ := hr.srcFrom i cap
    cases he
    have h := hc _ rfl j u (by
      rw [cellsOf_drop, List.drop_eq_getElem_cons hi]
      have hj : j < l[i].cells.length := (List.getElem?_eq_some_iff.1 hu).1
      show (l[i].cells ++ cellsOf (l.drop (i + 1)))[j]? = some u
      rw [List.getElem?_append_left hj, hu])
    rwa [addr_add] at h
  exact ⟨key 0 _ rfl, key 1 _ rfl, key 2 _ rfl, key 3 _ rfl, key 4 _ rfl, key 5 _ rfl⟩

theorem block_frozen6 {w : World} {b : Nat} {cs : Array Value} {t : TypeId} (h : w.heap[b]? = some (.cells cs t (0, 0))) :
    w.frozen? ⟨b, 0, none⟩ = false ∧ w.frozen? ⟨b, 1, none⟩ = false ∧ w.frozen? ⟨b, 2, none⟩ = false ∧ w.frozen? ⟨b, 3, none⟩ = false ∧ w.frozen? ⟨b, 4, none⟩ = false ∧ w.frozen? ⟨b, 5, none⟩ = false :=
  ⟨frozen_of_row w b 0 _ t h, frozen_of_row w b 1 _ t h, frozen_of_row w b 2 _ t h, frozen_of_row w b 3 _ t h, frozen_of_row w b 4 _ t h, frozen_of_row w b 5 _ t h⟩

theorem Kept.six {S : Nat → Prop} {a b : World} (h : Kept S a b) (B : Nat) (hB : B < a.heap.size → S B) (u0 u1 u2 u3 u4 u5 : Value) :
    Kept S a ((((((b.setCell ⟨B, 0, none⟩ u0).setCell ⟨B, 1, none⟩ u1).setCell ⟨B, 2, none⟩ u2).setCell ⟨B, 3, none⟩ u3).setCell ⟨B, 4, none⟩ u4).setCell ⟨B, 5, none⟩ u5) :=
  (((((h.setCell (p := ⟨B, 0, none⟩) hB u0).setCell (p := ⟨B, 1, none⟩) hB u1).setCell (p := ⟨B, 2, none⟩) hB u2).setCell (p := ⟨B, 3, none⟩) hB u3).setCell (p := ⟨B, 4, none⟩) hB u4).setCell (p := ⟨B, 5, none⟩) hB u5
set_option maxHeartbeats 1000000 in
theorem rtake_out (bq : Nat) (most : Int) (l : List Ask) (gq : Option Nat) (i : Int) (w : World) (h : QAt w bq most l gq) (hi : i < 0 ∨ (l.length : Int) ≤ i) :
    Calls Try.prog 21 #[.pointer (some ⟨bq, 0, none⟩), .int .i64 i] w fun e w' => e = .returned (.tuple #[Ask.zero.val, .bool false]) ∧ Kept NoB w w' := by
  obtain ⟨v, cap, hb, hr, hg⟩ := h
  obtain ⟨ao, rfl⟩ := hr.form
  obtain ⟨hlt, c0, c1, f0, f1⟩ := block_cells2 hb
  by_cases hi0 : i < 0
  · go_enter Try.func21, Try.ntmps21
    go_wp2
    exact bodyPost_ret (v := .tuple #[.agg #[.int .i64 0, .int .i64 0, .int .i64 0, .int .i64 0, .int .i64 0, .int .i64 0], .bool false]) (by simp [results, Try.results21, go_sem]) rfl ⟨rfl, (by repeat (first | with_reducible exact Kept.refl _ _ | with_reducible refine Kept.alloc ?_ _ | with_reducible refine Kept.drewN ?_ _ | with_reducible refine Kept.drew ?_))⟩
  · have hi1 : (l.length : Int) ≤ i := by omega
    go_enter Try.func21, Try.ntmps21
    go_wp2
    exact bodyPost_ret (v := .tuple #[.agg #[.int .i64 0, .int .i64 0, .int .i64 0, .int .i64 0, .int .i64 0, .int .i64 0], .bool false]) (by simp [results, Try.results21, go_sem]) rfl ⟨rfl, (by repeat (first | with_reducible exact Kept.refl _ _ | with_reducible refine Kept.alloc ?_ _ | with_reducible refine Kept.drewN ?_ _ | with_reducible refine Kept.drew ?_))⟩

set_option maxHeartbeats 1000000 in
theorem rtake_in (bq : Nat) (most : Int) (l : List Ask) (gq : Option Nat) (i : Nat) (w : World) (h : QAt w bq most l gq) (hi : i < l.length) :
    Calls Try.prog 21 #[.pointer (some ⟨bq, 0, none⟩), .int .i64 i] w fun e w' => e = .returned (.tuple #[l[i].val, .bool true]) ∧ QAt w' bq most (l.eraseIdx i) gq ∧ Kept (fun k => k = bq ∨ gq = some k) w w' := by
  obtain ⟨v, cap, hb, hr, hg⟩ := h
  have hne := not_own hb (by decide) hr
  obtain ⟨hlt, c0, c1, f0, f1⟩ := block_cells2 hb
  rcases hr.2 with ⟨_, h0, _⟩ | ⟨g, cur, rfl, hgg, hnc, hcm, _⟩
  · omega
  obtain ⟨a0, a1, a2, a3, a4, a5⟩ := asks_get w g _ cap i l hr hi
  have hgw := lt_of_heap hgg
  have hgb : g ≠ bq := by intro e; exact hne (by simp [Value.ownBlock, e])
  have hi1 : (i : Int) < (l.length : Int) := by omega
  have hcm' := hcm
  unfold maxLen at hcm'
  have hv : l[i].val = .agg #[.int .i64 l[i].job, .int .i64 l[i].op, .int .i64 l[i].cart, .int .i64 l[i].pos, .int .i64 l[i].slot, .int .i64 l[i].born] := rfl
  rw [hv]
  clear hv
  have hlen : (l.eraseIdx i).length = l.length - 1 := by rw [List.length_eraseIdx, if_pos hi]
  have HLEN := Lib.hid hlen
  clear hlen
  generalize l[i] = x at a0 a1 a2 a3 a4 a5 ⊢
  go_enter Try.func21, Try.ntmps21
  go_wp2_with fail
  refine (delete_any g l.length cap i l _ (hr.kept (S := NoB) (by repeat (first | with_reducible exact Kept.refl _ _ | with_reducible refine Kept.alloc ?_ _ | with_reducible refine Kept.drewN ?_ _ | with_reducible refine Kept.drew ?_)) (fun _ _ h => h)) hi hnc hcm).mono ?_
  rintro e w2 ⟨rfl, hrow2, hk2⟩
  have hb2 := hk2.heap ((show Kept NoB w _ from (by repeat (first | with_reducible exact Kept.refl _ _ | with_reducible refine Kept.alloc ?_ _ | with_reducible refine Kept.drewN ?_ _ | with_reducible refine Kept.drew ?_))).heap hb (fun h => h)) (fun h => hgb h.symm)
  have hx2 := hk2.heap (heap_alloc_new w (.cells x.arr 28)) (fun h => by omega)
  obtain ⟨hlt2, d0, d1, e0, e1⟩ := block_cells2 hb2
  obtain ⟨b0, b1, b2, b3, b4, b5⟩ := block_cells6 hx2
  obtain ⟨k0, k1, k2, k3, k4, k5⟩ := block_frozen6 hx2
  have hsz := lt_of_heap hx2
  have hxg : w.heap.size ≠ g := by omega
  have hxb : w.heap.size ≠ bq := by omega
  clear a0 a1 a2 a3 a4 a5 c0 c1 f0 f1
  go_wp2
  refine bodyPost_ret (v := .tuple #[.agg #[.int .i64 x.job, .int .i64 x.op, .int .i64 x.cart, .int .i64 x.pos, .int .i64 x.slot, .int .i64 x.born], .bool true]) (by simp [results, Try.results21, go_sem, b0, b1, b2, b3, b4, b5]) rfl ⟨rfl, ?_, ?_⟩
  · refine QAt.kept (S := fun k => k = w.heap.size) (w := w2.setCell ⟨bq, 1, none⟩ (.slice (some ⟨g, 0, none⟩) (l.length - 1) cap)) ⟨_, cap, heap_setCell_same w2 bq 1 _ 50 _ hb2, ?_, ?_⟩ ?_ (fun h => hxb h.symm) (fun k hk h => ?_)
    · unfold Asks
      rw [HLEN.out]
      exact hrow2.kept (S := fun k => k = bq) (Kept.setCell (S := fun k => k = bq) (p := ⟨bq, 1, none⟩) (Kept.refl _ _) (fun _ => rfl) _) (fun k hk e => by simp [Value.ownBlock] at hk; omega)
    · exact hg
    · exact Kept.six (S := fun k => k = w.heap.size) (Kept.refl _ _) w.heap.size (fun _ => rfl) _ _ _ _ _ _
    · rw [← hg] at hk; simp [Value.ownBlock] at hk; omega
  · have hK : Kept (fun k => k = bq ∨ gq = some k) w w2 := (show Kept NoB w _ from (by repeat (first | with_reducible exact Kept.refl _ _ | with_reducible refine Kept.alloc ?_ _ | with_reducible refine Kept.drewN ?_ _ | with_reducible refine Kept.drew ?_))).of_none.trans hk2 (fun k _ e => .inr (by rw [← hg, e]; rfl))
    exact Kept.six (hK.setCell (p := ⟨bq, 1, none⟩) (fun _ => .inl rfl) _) _ (fun h => absurd h (Nat.lt_irrefl _)) _ _ _ _ _ _

/-- what Take answers, and leaves -/
def took (l : List Ask) (i : Int) : Ask × Bool := if 0 ≤ i ∧ i < l.length then (l[i.toNat]?.getD Ask.zero, true) else (Ask.zero, false)
def rest (l : List Ask) (i : Int) : List Ask := if 0 ≤ i ∧ i < l.length then l.eraseIdx i.toNat else l
theorem rtake_any (bq : Nat) (most : Int) (l : List Ask) (gq : Option Nat) (i : Int) (w : World) (h : QAt w bq most l gq) :
    Calls Try.prog 21 #[.pointer (some ⟨bq, 0, none⟩), .int .i64 i] w fun e w' => e = .returned (.tuple #[(took l i).1.val, .bool (took l i).2]) ∧ QAt w' bq most (rest l i) gq ∧ Kept (fun k => k = bq ∨ gq = some k) w w' := by
  by_cases hc : 0 ≤ i ∧ i < l.length
  · obtain ⟨n, rfl⟩ := Int.eq_ofNat_of_zero_le hc.1
    have hn : n < l.length := by omega
    unfold took rest
    rw [if_pos hc, if_pos hc, Int.toNat_natCast, List.getElem?_eq_getElem hn, Option.getD_some]
    exact rtake_in bq most l gq n w h hn
  · unfold took rest
    rw [if_neg hc, if_neg hc]
    refine (rtake_out bq most l gq i w h (by omega)).mono ?_
    rintro e w' ⟨he, hk⟩
    exact ⟨he, h.kept hk (fun h => h) (fun _ _ h => h), hk.of_none⟩

set_option maxHeartbeats 1000000 in
theorem take_any (bq : Nat) (most : Int) (l : List Ask) (gq : Option Nat) (i : Int) (w : World) (h : QAt w bq most l gq) :
    Calls Try.prog 10 #[.pointer (some ⟨bq, 0, none⟩), .int .i64 i] w fun e w' => e = .returned (.tuple #[(took l i).1.val, .bool (took l i).2]) ∧ QAt w' bq most (rest l i) gq ∧ Kept (fun k => k = bq ∨ gq = some k) w w' := by
  have hlt := h.lt
  have C := fun W (hW : Kept NoB w W) => rtake_any bq most l gq i W (h.kept hW (fun h => h) (fun _ _ h => h))
  have HC := Lib.hid C
  clear C
  generalize took l i = t at HC ⊢
  obtain ⟨x, ok⟩ := t
  generalize rest l i = l' at HC ⊢
  unfold Ask.val Ask.arr at HC ⊢
  go_enter Try.func10, Try.ntmps10
  go_wp2_with fail
  refine (HC.out _ (by repeat (first | with_reducible exact Kept.refl _ _ | with_reducible refine Kept.alloc ?_ _ | with_reducible refine Kept.drewN ?_ _ | with_reducible refine Kept.drew ?_))).mono ?_
  rintro e w2 ⟨rfl, hq2, hk2⟩
  have hx2 := hk2.heap (heap_alloc_new w (.cells Ask.zero.arr 28)) (fun h => by rcases h with h | h; omega; have := (hlt.2 _ h).1; omega)
  obtain ⟨b0, b1, b2, b3, b4, b5⟩ := block_cells6 hx2
  obtain ⟨k0, k1, k2, k3, k4, k5⟩ := block_frozen6 hx2
  go_wp2
  have hxb : w.heap.size ≠ bq := by have := hlt.1; omega
  have K1 : Kept (fun k => k = bq ∨ gq = some k) w w2 := (show Kept NoB w _ from (by repeat (first | with_reducible exact Kept.refl _ _ | with_reducible refine Kept.alloc ?_ _ | with_reducible refine Kept.drewN ?_ _ | with_reducible refine Kept.drew ?_))).of_none.trans hk2 (fun _ _ h => h)
  refine bodyPost_ret (v := .tuple #[.agg #[.int .i64 x.job, .int .i64 x.op, .int .i64 x.cart, .int .i64 x.pos, .int .i64 x.slot, .int .i64 x.born], .bool ok]) (by simp [results, Try.results10, go_sem, b0, b1, b2, b3, b4, b5]) rfl ⟨rfl, ?_, ?_⟩
  · exact hq2.kept (S := fun k => k = w.heap.size) (Kept.six (S := fun k => k = w.heap.size) (Kept.refl _ _) w.heap.size (fun _ => rfl) _ _ _ _ _ _) (fun h => hxb h.symm) (fun k hk h => by have := (hlt.2 k hk).1; omega)
  · exact Kept.six K1 _ (fun h => absurd h (Nat.lt_irrefl _)) _ _ _ _ _ _
set_option maxHeartbeats 1000000 in
theorem take_nil (i : Int) (w : World) :
    Calls Try.prog 10 #[.pointer none, .int .i64 i] w fun e w' => e = .returned (.tuple #[Ask.zero.val, .bool false]) ∧ Kept NoB w w' := by
  go_enter Try.func10, Try.ntmps10
  go_wp2
  exact bodyPost_ret (v := .tuple #[.agg #[.int .i64 0, .int .i64 0, .int .i64 0, .int .i64 0, .int .i64 0, .int .i64 0], .bool false]) (by simp [results, Try.results10, go_sem]) rfl ⟨rfl, (by repeat (first | with_reducible exact Kept.refl _ _ | with_reducible refine Kept.alloc ?_ _ | with_reducible refine Kept.drewN ?_ _ | with_reducible refine Kept.drew ?_))⟩
end Go.Proofs.Ytjagoljaocbdcaa
