/- The queue and the reference's queue, side by side, beside blocks (R) that the call itself has made. -/
import Derived.Test.YtjagoljaocbdcaaIn
import Derived.Test.YtjagoljaocbdcaaQ9
namespace Go.Proofs.Ytjagoljaocbdcaa
open Go.RowKit

def PLx (w wr : World) (bq br : Nat) (most : Int) (lq lr : List Ask) (R : Nat → Prop) (g h : Option Nat) : Prop :=
  QAt wr bq most lq g ∧ RAt wr br most lr h ∧ Kept NoB w wr ∧ w.heap.size ≤ bq ∧ w.heap.size ≤ br ∧ (∀ k, g = some k → w.heap.size ≤ k) ∧ (∀ k, h = some k → w.heap.size ≤ k) ∧
    bq ≠ br ∧ g ≠ some br ∧ h ≠ some bq ∧ (∀ k, g = some k → h ≠ some k) ∧ ∀ k, R k → k < wr.heap.size ∧ k ≠ bq ∧ k ≠ br ∧ g ≠ some k ∧ h ≠ some k
def PL (w wr : World) (bq br : Nat) (most : Int) (lq lr : List Ask) (R : Nat → Prop) : Prop := ∃ g h, PLx w wr bq br most lq lr R g h
theorem PL.old {w wr : World} {bq br : Nat} {most : Int} {lq lr : List Ask} {R : Nat → Prop} (h : PL w wr bq br most lq lr R) : Kept NoB w wr := by obtain ⟨_, _, _, _, h2, _⟩ := h; exact h2
theorem PL.kept {w wr w' : World} {bq br : Nat} {most : Int} {lq lr : List Ask} {R : Nat → Prop} (h : PL w wr bq br most lq lr R) (hk : Kept NoB wr w') : PL w w' bq br most lq lr R := by
  obtain ⟨g, h, q, r, o, p⟩ := h
  refine ⟨g, h, q.kept hk (fun h => h) (fun _ _ h => h), r.kept hk (fun h => h) (fun _ _ h => h), o.then hk, ?_⟩
  obtain ⟨p1, p2, p3, p4, p5, p6, p7, p8, p9⟩ := p
  exact ⟨p1, p2, p3, p4, p5, p6, p7, p8, fun k hR => ⟨Nat.lt_of_lt_of_le (p9 k hR).1 hk.size, (p9 k hR).2⟩⟩
theorem PL.free {w wr : World} {bq br : Nat} {most : Int} {lq lr : List Ask} {R T : Nat → Prop} (h : PL w wr bq br most lq lr R) (hT : ∀ k, T k → R k) : PL w wr bq br most lq lr T := by
  obtain ⟨g, h, q, r, o, p1, p2, p3, p4, p5, p6, p7, p8, p9⟩ := h
  exact ⟨g, h, q, r, o, p1, p2, p3, p4, p5, p6, p7, p8, fun k hk => p9 k (hT k hk)⟩
/-- a new block is guarded too -/
theorem PL.guard {w wr : World} {bq br : Nat} {most : Int} {lq lr : List Ask} {R : Nat → Prop} (hp : PL w wr bq br most lq lr R) (o : Obj) : PL w (wr.alloc o) bq br most lq lr (fun k => R k ∨ k = wr.heap.size) := by
  obtain ⟨g, x, q, r, o', p1, p2, p3, p4, p5, p6, p7, p8, p9⟩ := hp
  have hk : Kept NoB wr (wr.alloc o) := (Kept.refl _ _).alloc o
  refine ⟨g, x, q.kept hk (fun h => h) (fun _ _ h => h), r.kept hk (fun h => h) (fun _ _ h => h), o'.then hk, p1, p2, p3, p4, p5, p6, p7, p8, fun k hR => ?_⟩
  rcases hR with hR | hR
  · exact ⟨Nat.lt_of_lt_of_le (p9 k hR).1 hk.size, (p9 k hR).2⟩
  · have hq := q.lt
    have hr := r.lt
    exact ⟨by simp; omega, by have := hq.1; omega, by have := hr.1; omega, fun e => by have := (hq.2 k e).1; omega, fun e => by have := (hr.2 k e).1; omega⟩
theorem PL.stepQ {w wr w' : World} {bq br : Nat} {most : Int} {lq lr lq' : List Ask} {R : Nat → Prop} {g g1 h : Option Nat} (hp : PLx w wr bq br most lq lr R g h)
    (q1 : QAt w' bq most lq' g1) (hk : Kept (QB bq g) wr w') (hn : NewG wr g g1) : PL w w' bq br most lq' lr R ∧ Kept (fun k => ¬ R k) wr w' := by
  obtain ⟨q, r, o, p1, p2, p3, p4, p5, p6, p7, p8, p9⟩ := hp
  have hs := o.size
  have hrl := r.lt
  have hold : Kept NoB w w' := o.trans hk (fun i hi hs' => by
    rcases hs' with rfl | e
    · omega
    · have := p3 i e; omega)
  have hnew : ∀ k, g1 = some k → g = some k ∨ wr.heap.size ≤ k := by
    intro k e
    rcases hn with rfl | ⟨k', e2, h'⟩
    · exact .inl e
    · rw [e2] at e; cases e; exact .inr h'
  refine ⟨⟨g1, h, q1, r.kept hk ?_ ?_, hold, p1, p2, ?_, p4, p5, ?_, p7, ?_, ?_⟩, hk.mono ?_⟩
  · rintro (e | e)
    · exact p5 e.symm
    · exact p6 e
  · rintro k e (e2 | e2)
    · exact p7 (e2 ▸ e)
    · exact p8 k e2 e
  · intro k e
    rcases hnew k e with e2 | e2
    · exact p3 k e2
    · omega
  · intro e
    rcases hnew _ e with e2 | e2
    · exact p6 e2
    · have := hrl.1; omega
  · intro k e e3
    rcases hnew k e with e2 | e2
    · exact p8 k e2 e3
    · have := (hrl.2 k e3).1; omega
  · intro k hR
    obtain ⟨a1, a2, a3, a4, a5⟩ := p9 k hR
    refine ⟨Nat.lt_of_lt_of_le a1 hk.size, a2, a3, fun e => ?_, a5⟩
    rcases hnew k e with e2 | e2
    · exact a4 e2
    · omega
  · intro k _ hs' hR
    obtain ⟨a1, a2, a3, a4, a5⟩ := p9 k hR
    rcases hs' with e | e
    · exact a2 e
    · exact a4 e
theorem PL.stepR {w wr w' : World} {bq br : Nat} {most : Int} {lq lr lr' : List Ask} {R : Nat → Prop} {g h h1 : Option Nat} (hp : PLx w wr bq br most lq lr R g h)
    (r1 : RAt w' br most lr' h1) (hk : Kept (fun k => k = br) wr w') (hn : h1 = h ∨ ∀ k, h1 = some k → wr.heap.size ≤ k) : PL w w' bq br most lq lr' R ∧ Kept (fun k => ¬ R k) wr w' := by
  obtain ⟨q, r, o, p1, p2, p3, p4, p5, p6, p7, p8, p9⟩ := hp
  have hs := o.size
  have hql := q.lt
  have hold : Kept NoB w w' := o.trans hk (fun i hi e => by omega)
  have hnew : ∀ k, h1 = some k → h = some k ∨ wr.heap.size ≤ k := by
    intro k e
    rcases hn with rfl | h'
    · exact .inl e
    · exact .inr (h' k e)
  refine ⟨⟨g, h1, q.kept hk p5 (fun k e e2 => p6 (e2 ▸ e)), r1, hold, p1, p2, p3, ?_, p5, p6, ?_, ?_, ?_⟩, hk.mono ?_⟩
  · intro k e
    rcases hnew k e with e2 | e2
    · exact p4 k e2
    · omega
  · intro e
    rcases hnew _ e with e2 | e2
    · exact p7 e2
    · have := hql.1; omega
  · intro k e3 e
    rcases hnew k e with e2 | e2
    · exact p8 k e3 e2
    · have := (hql.2 k e3).1; omega
  · intro k hR
    obtain ⟨a1, a2, a3, a4, a5⟩ := p9 k hR
    refine ⟨Nat.lt_of_lt_of_le a1 hk.size, a2, a3, a4, fun e => ?_⟩
    rcases hnew k e with e2 | e2
    · exact a5 e2
    · omega
  · intro k _ e hR
    exact (p9 k hR).2.2.1 e

section
variable {w wr : World} {bq br : Nat} {most : Int} {lq lr : List Ask} {R : Nat → Prop}
theorem pl_takeq (hp : PL w wr bq br most lq lr R) (i : Int) :
    Calls Try.prog 10 #[.pointer (some ⟨bq, 0, none⟩), .int .i64 i] wr fun e w' => e = .returned (.tuple #[(took lq i).1.val, .bool (took lq i).2]) ∧ PL w w' bq br most (rest lq i) lr R ∧ Kept (fun k => ¬ R k) wr w' := by
  obtain ⟨g, h, hx⟩ := hp
  exact (take_any bq most lq g i wr hx.1).mono fun _ _ ⟨he, hq, hk⟩ => ⟨he, PL.stepQ hx hq hk (.inl rfl)⟩
theorem pl_taker (hp : PL w wr bq br most lq lr R) (i : Int) (hlen : lr.length ≤ 4096) :
    Calls Try.prog 11 #[.pointer (some ⟨br, 0, none⟩), .int .i64 i] wr fun e w' => e = .returned (.tuple #[(took lr i).1.val, .bool (took lr i).2]) ∧ PL w w' bq br most lq (rest lr i) R ∧ Kept (fun k => ¬ R k) wr w' := by
  obtain ⟨g, h, hx⟩ := hp
  exact (reftake_any br most lr h i wr hx.2.1 hlen).mono fun _ _ ⟨he, g', hq, hk, hn⟩ => ⟨he, PL.stepR hx hq hk hn⟩
theorem pl_dropq (hp : PL w wr bq br most lq lr R) (j : Int) (hlen : lq.length ≤ 4096) :
    Calls Try.prog 13 #[.pointer (some ⟨bq, 0, none⟩), .int .i64 j] wr fun e w' => e = .returned (.int .i64 ((lq.length : Int) - (others lq j).length)) ∧ PL w w' bq br most (others lq j) lr R ∧ Kept (fun k => ¬ R k) wr w' := by
  obtain ⟨g, h, hx⟩ := hp
  exact (drop_any bq most lq g j wr hx.1 hlen).mono fun _ _ ⟨he, hq, hk⟩ => ⟨he, PL.stepQ hx hq hk (.inl rfl)⟩
theorem pl_dropr (hp : PL w wr bq br most lq lr R) (j : Int) (hlen : lr.length ≤ 4096) :
    Calls Try.prog 14 #[.pointer (some ⟨br, 0, none⟩), .int .i64 j] wr fun e w' => e = .returned (.int .i64 ((lr.length : Int) - (others lr j).length)) ∧ PL w w' bq br most lq (others lr j) R ∧ Kept (fun k => ¬ R k) wr w' := by
  obtain ⟨g, h, hx⟩ := hp
  exact (refdrop_any br most lr h j wr hx.2.1 hlen).mono fun _ _ ⟨he, g', hq, hk, hn⟩ => ⟨he, PL.stepR hx hq hk (.inr hn)⟩
theorem pl_pushq (hp : PL w wr bq br most lq lr R) (a : Ask) (hmost : most ≤ 4096) :
    Calls Try.prog 15 #[.pointer (some ⟨bq, 0, none⟩), a.val] wr fun e w' => e = .returned (.bool (decide ((lq.length : Int) < most))) ∧ PL w w' bq br most (pushed most lq a) lr R ∧ Kept (fun k => ¬ R k) wr w' := by
  obtain ⟨g, h, hx⟩ := hp
  exact (push_any bq most lq g a wr hx.1 hmost).mono fun _ _ ⟨he, g', hq, hk, hn⟩ => ⟨he, PL.stepQ hx hq hk hn⟩
theorem pl_pushr (hp : PL w wr bq br most lq lr R) (a : Ask) (hmost : most ≤ 4096) :
    Calls Try.prog 16 #[.pointer (some ⟨br, 0, none⟩), a.val] wr fun e w' => e = .returned (.bool (decide ((lr.length : Int) < most))) ∧ PL w w' bq br most lq (pushed most lr a) R ∧ Kept (fun k => ¬ R k) wr w' := by
  obtain ⟨g, h, hx⟩ := hp
  by_cases hc : (lr.length : Int) < most
  · have hd : decide ((lr.length : Int) < most) = true := by simpa using hc
    have hpd : pushed most lr a = lr ++ [a] := by unfold pushed; rw [if_pos hc]
    rw [hd, hpd]
    exact (refpush_room br most lr h a wr hx.2.1 hc hmost).mono fun _ _ ⟨he, g', hq, hk, k, e, hn⟩ => ⟨he, PL.stepR hx hq hk (.inr fun k' e' => by rw [e] at e'; cases e'; exact hn)⟩
  · have hd : decide ((lr.length : Int) < most) = false := by simpa using hc
    have hpd : pushed most lr a = lr := by unfold pushed; rw [if_neg hc]
    rw [hd, hpd]
    exact (refpush_full br most lr h a wr hx.2.1 (by omega)).mono fun _ _ ⟨he, hk⟩ => ⟨he, PL.kept ⟨g, h, hx⟩ hk, hk.of_none⟩
theorem pl_len (hp : PL w wr bq br most lq lr R) :
    Calls Try.prog 17 #[.pointer (some ⟨bq, 0, none⟩)] wr fun e w' => e = .returned (.int .i64 lq.length) ∧ wr = w' := by
  obtain ⟨g, h, hx⟩ := hp
  exact len_any bq most lq g wr hx.1
theorem pl_all (hp : PL w wr bq br most lq lr R) (hlen : lq.length ≤ 4096) :
    Calls Try.prog 19 #[.pointer (some ⟨bq, 0, none⟩)] wr fun e w' => ∃ v, e = .returned v ∧ Fresh wr w' v lq := by
  obtain ⟨g, h, hx⟩ := hp
  exact all_any bq most lq g wr hx.1 hlen
theorem pl_list (hp : PL w wr bq br most lq lr R) : ∃ ao cap, wr.cell? ⟨br, 0, none⟩ = some (.slice ao lr.length cap) ∧ Asks wr (.slice ao lr.length cap) lr cap := by
  obtain ⟨g, h, hx⟩ := hp
  obtain ⟨v, cap, hb, hr, _⟩ := hx.2.1
  obtain ⟨ao, rfl⟩ := hr.form
  exact ⟨ao, cap, (block_cells2 hb).2.1, hr⟩
end
theorem pl_begin {w wr w' : World} {bq br : Nat} {most : Int} (h0 : Kept NoB w wr) (hbq : w.heap.size ≤ bq) (hlt : bq < wr.heap.size) (q : QAt wr bq most [] none) (hbr : br = wr.heap.size) (r : RAt w' br most [] none) (hk : Kept NoB wr w') : PL w w' bq br most [] [] (fun _ => False) :=
  ⟨none, none, q.kept hk (fun h => h) (fun _ _ h => h), r, h0.then hk, hbq, by have := h0.size; omega, fun _ h => (by cases h), fun _ h => (by cases h), by omega, (fun h => by cases h), (fun h => by cases h), fun _ h => (by cases h), fun _ h => h.elim⟩
end Go.Proofs.Ytjagoljaocbdcaa
