/- A queue that the call itself has made, beside blocks (R) that the call itself has made; Alike, where one slice came by slicing. -/
import Derived.Test.YtjagoljaocbdcaaIn
namespace Go.Proofs.Ytjagoljaocbdcaa
open Go.RowKit

def QS (w wr : World) (bq : Nat) (l : List Ask) (R : Nat → Prop) : Prop :=
  ∃ g, QAt wr bq 60 l g ∧ Kept NoB w wr ∧ w.heap.size ≤ bq ∧ (∀ k, g = some k → w.heap.size ≤ k) ∧ ∀ k, R k → w.heap.size ≤ k ∧ k < wr.heap.size ∧ k ≠ bq ∧ g ≠ some k
theorem QS.begin {w wr : World} {bq : Nat} {l : List Ask} (h : St w wr bq 60 l) : QS w wr bq l (fun _ => False) := by
  obtain ⟨g, h1, h2, h3, h4⟩ := h; exact ⟨g, h1, h2, h3, h4, fun k hk => hk.elim⟩
theorem QS.st {w wr : World} {bq : Nat} {l : List Ask} {R : Nat → Prop} (h : QS w wr bq l R) : St w wr bq 60 l := by
  obtain ⟨g, h1, h2, h3, h4, _⟩ := h; exact ⟨g, h1, h2, h3, h4⟩
theorem QS.kept {w wr w' : World} {bq : Nat} {l : List Ask} {R T : Nat → Prop} (h : QS w wr bq l R) (hk : Kept T wr w') (hT : ∀ k, T k → R k) : QS w w' bq l R := by
  obtain ⟨g, h1, h2, h3, h4, h5⟩ := h
  refine ⟨g, h1.kept hk (fun e => (h5 _ (hT _ e)).2.2.1 rfl) (fun k hk' e => (h5 k (hT k e)).2.2.2 hk'), h2.trans hk (fun k hk' e => by have := (h5 k (hT k e)).1; omega), h3, h4, fun k hR => ?_⟩
  obtain ⟨p1, p2, p3, p4⟩ := h5 k hR
  exact ⟨p1, Nat.lt_of_lt_of_le p2 hk.size, p3, p4⟩
theorem QS.fresh {w wa wb : World} {bq : Nat} {l L : List Ask} {R : Nat → Prop} {v : Value} (h : QS w wa bq l R) (f : Fresh wa wb v L) : QS w wb bq l (fun k => R k ∨ v.ownBlock = some k) := by
  obtain ⟨_, f2, f3, f4⟩ := f
  obtain ⟨g, h1, h2, h3, h4, h5⟩ := h
  have hb := h1.lt
  have hs := h2.size
  refine ⟨g, h1.kept f3 (fun h => h) (fun _ _ h => h), h2.then f3, h3, h4, fun k hR => ?_⟩
  rcases hR with hR | hR
  · obtain ⟨p1, p2, p3, p4⟩ := h5 k hR
    exact ⟨p1, Nat.lt_of_lt_of_le p2 f3.size, p3, p4⟩
  · have h7 := f4 k hR
    have h8 := f2.lt k hR
    exact ⟨by omega, h8, by have := hb.1; omega, fun e => by have := (hb.2 k e).1; omega⟩
theorem qs_take {w wr : World} {bq : Nat} {l : List Ask} {R : Nat → Prop} (h : QS w wr bq l R) (i : Int) :
    Calls Try.prog 10 #[.pointer (some ⟨bq, 0, none⟩), .int .i64 i] wr fun e w' => e = .returned (.tuple #[(took l i).1.val, .bool (took l i).2]) ∧ St w w' bq 60 (rest l i) ∧ Kept (fun k => ¬ R k) wr w' := by
  obtain ⟨g, h1, h2, h3, h4, h5⟩ := h
  refine (take_any bq 60 l g i wr h1).mono fun _ _ ⟨he, hq, hk⟩ => ⟨he, St.step h2 h3 h4 hq hk (.inl rfl), hk.mono fun k _ hs hR => ?_⟩
  obtain ⟨p1, p2, p3, p4⟩ := h5 k hR
  rcases hs with rfl | hs
  · exact p3 rfl
  · exact p4 hs

/-- a slice from whatever address reads as l -/
def Reads (w : World) (b off : Nat) (l : List Ask) : Prop := ∀ i a, l[i]? = some a → ∀ j u, a.cells[j]? = some u → w.cell? ⟨b, off + (i * 6 + j), none⟩ = some u

set_option maxHeartbeats 1000000 in
theorem alike_at (v1 : Value) (c1 b off c2 : Nat) (l : List Ask) (w : World) (h1 : Asks w v1 l c1) (h2 : Reads w b off l) (hlen : l.length ≤ 4096) :
    Calls Try.prog 18 #[v1, .slice (some ⟨b, off, none⟩) l.length c2] w fun e w' => e = .returned (.bool true) ∧ Kept NoB w w' := by
  obtain ⟨a1, rfl⟩ := h1.form
  have H2 := Lib.hid h2
  clear h2
  go_enter Try.func18, Try.ntmps18
  go_wp2_with fail
  go_loopw [5] (fun i wr => ∃ k : Nat, k ≤ l.length ∧ i = .int .i64 k ∧ Kept NoB w wr) (fun i _ => l.length - (intOf i).toNat)
  case atStart => exact ⟨0, Nat.zero_le _, rfl, (by repeat (first | with_reducible exact Kept.refl _ _ | with_reducible refine Kept.alloc ?_ _ | with_reducible refine Kept.drewN ?_ _ | with_reducible refine Kept.drew ?_))⟩
  case round =>
    obtain ⟨k, hk, rfl, hkk⟩ := hrel
    by_cases hlt : k < l.length
    · have r1 : Asks wr _ l c1 := h1.kept hkk (fun _ _ h => h)
      rcases r1.2 with ⟨_, h, _⟩ | ⟨g1, cur1, hv1, _⟩
      · omega
      cases hv1
      obtain ⟨x, hx⟩ : ∃ x, l[k] = x := ⟨_, rfl⟩
      obtain ⟨x0, x1, x2, x3, x4, x5⟩ := asks_get wr g1 _ c1 k l r1 hlt
      obtain ⟨y0, y1, y2, y3, y4, y5⟩ := in_get hkk hlt hx H2.out
      rw [hx] at x0 x1 x2 x3 x4 x5
      have hlti : (k : Int) < (l.length : Int) := by omega
      have hk0 : (0 : Int) ≤ (k : Int) := by omega
      have HS := Lib.hid (fun W => same_self x W)
      unfold Ask.val Ask.arr at HS
      clear r1 h1 hx
      go_wp2_with fail
      go_region_with ((go_at_call 12; refine (HS.out _).mono ?_; rintro e w' ⟨rfl, hw'⟩))
      all_goals
        go_wp2
        go_roundw
        case rel => exact ⟨k + 1, by omega, by go_num, (hkk.drew).then hw'⟩
        case measure => simp [intOf]; omega
    · go_wp2_with fail
      go_ret
      exact ⟨rfl, hkk⟩

/-- the elements of a row behind the first -/
theorem reads_tail {w : World} {g n cap : Nat} {l : List Ask} (h : Row w 28 6 (.slice (some ⟨g, 0, none⟩) n cap) n cap (cellsOf l)) : Reads w g 6 (l.drop 1) := by
  intro i a hi j u hu
  rw [List.getElem?_drop] at hi
  obtain ⟨_, ao, c, he, _, hc⟩ := h.srcFrom 0 cap
  cases he
  have hj : j < 6 := by have := (List.getElem?_eq_some_iff.1 hu).1; simpa [Ask.cells] using this
  have h2 := hc _ rfl ((1 + i) * 6 + j) u (by
    rw [Nat.zero_mul, List.drop_zero]
    have h3 := cellsOf_drop l (1 + i)
    obtain ⟨h4, h5⟩ := List.getElem?_eq_some_iff.1 hi
    rw [List.drop_eq_getElem_cons h4, h5] at h3
    rw [← List.getElem?_drop, h3]
    show (a.cells ++ _)[j]? = _
    rw [List.getElem?_append_left (by simpa [Ask.cells] using hj)]
    exact hu)
  have e : (⟨g, 0 * 6, none⟩ : Addr).add ((1 + i) * 6 + j) = ⟨g, 6 + (i * 6 + j), none⟩ := by
    rw [addr_add]; congr 1; omega
  rw [e] at h2
  exact h2
end Go.Proofs.Ytjagoljaocbdcaa
