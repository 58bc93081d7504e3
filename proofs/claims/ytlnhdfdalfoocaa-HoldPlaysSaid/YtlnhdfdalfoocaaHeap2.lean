/- More on rows: append where there is room; parts of a row; stores into a row. -/
import Derived.Test.YtlnhdfdalfoocaaHeap
namespace Go.Proofs.Ytlnhdfdalfoocaa
open Go.RowKit

/-- append where there is room: the slice lies where it lay -/
theorem run_append_in {P : Program} (w : World) (t ty e : TypeId) (i : TypeInfo) (size : Nat) (ht : P.underlying t = some (.slice e)) (hi : P.info? e = some i) (hsize : i.size = size)
    (g n cap : Nat) (xs : List Value) (hrow : Row w e size (.slice (some ⟨g, 0, none⟩) n cap) n cap xs)
    (x : Value) (m : Nat) (news : List Value) (hsrc : Src w size x m news) (h1 : ∀ u ∈ news, u.oneCell' = true) (hroom : n + m ≤ cap) :
    ∃ w', (Builtin.append_ #[t, t] ty #[.slice (some ⟨g, 0, none⟩) n cap, x]).run P w = .ok (.slice (some ⟨g, 0, none⟩) (n + m) cap) w' ∧ Row w' e size (.slice (some ⟨g, 0, none⟩) (n + m) cap) (n + m) cap (xs ++ news) ∧ Kept (fun k => k = g) w w' := by
  subst hsize
  obtain ⟨hl, ao, c, rfl, hnone, hcells⟩ := hsrc
  by_cases hm : m = 0
  · subst hm
    have hn : news = [] := List.eq_nil_of_length_eq_zero (by simpa using hl)
    subst hn
    exact ⟨w, run_append_none (P := P) w t ty e i ht hi _ i.size n cap xs hrow ao c, by simpa using hrow, Kept.refl _ _⟩
  · cases ao with
    | none => exact absurd (hnone rfl) hm
    | some a =>
      have hlen : (xs ++ news).length = (n + m) * i.size := by rw [List.length_append, hrow.1, hl, Nat.add_mul]
      rcases hrow.2 with ⟨h, _⟩ | ⟨g', cur, hv, hg, hnc, hcm, hcs, htake⟩
      · cases h
      · cases hv
        have hfit : n * i.size + news.length ≤ cur.size := by
          rw [hl, ← Nat.add_mul]; exact Nat.le_trans (Nat.mul_le_mul_right _ hroom) hcs
        have hr := run_append_room (P := P) w t ty e i ht hi g n cap cur hg a m c news hl (hcells a rfl) h1 hroom hfit
        refine ⟨_, hr, ⟨hlen, .inr ⟨g, _, rfl, setRow_heap w g cur _ e _ hg, hroom, hcm, ?_, ?_⟩⟩, Kept.setRow (S := fun k => k = g) (g := g) (Kept.refl _ _) (fun _ => rfl) _⟩
        · simp only [List.size_toArray, List.length_append, List.length_take, List.length_drop, Array.length_toList]
          omega
        · rw [htake, ← hlen]
          exact List.take_left
section
variable {P : Program} {w : World}
theorem wp_append_in {o : Oper} {a : Act} {K : Act → World → Prop} {Q : Exit → Act → World → Prop} (s x : Operand) (t : TypeId)
    (ho : o.op = .call { callee := .builtin .append, args := #[s, x], argTypes := #[t, t] })
    (e : TypeId) (i : TypeInfo) (size : Nat) (ht : P.underlying t = some (.slice e)) (hi : P.info? e = some i) (hsize : i.size = size)
    (g n cap : Nat) (xs : List Value) (hs : a.eval s = .slice (some ⟨g, 0, none⟩) n cap) (hrow : Row w e size (.slice (some ⟨g, 0, none⟩) n cap) n cap xs)
    (xv : Value) (m : Nat) (news : List Value) (hx : a.eval x = xv) (hsrc : Src w size xv m news) (h1 : ∀ u ∈ news, u.oneCell' = true) (hroom : n + m ≤ cap)
    (N : Nat) (hN : n + m = N) (ys : List Value) (hys : xs ++ news = ys)
    (h : ∀ w', Row w' e size (.slice (some ⟨g, 0, none⟩) N cap) N cap ys → Kept (fun k => k = g) w w' → K (a.put o.dst (.slice (some ⟨g, 0, none⟩) N cap)) w') : o.wp P a w K Q := by
  subst hN
  subst hys
  obtain ⟨w', hr, h2, h3⟩ := run_append_in (P := P) w t o.type e i size ht hi hsize g n cap xs hrow xv m news hsrc h1 hroom
  unfold Oper.wp execOp
  simp only [ho, resolve, invoke, builtin, Sem.run_bind, Sem.run_pure, Result.andThen_ok, List.map_toArray, List.map_cons, List.map_nil, hs, hx, hr]
  exact h w' h2 h3
theorem step_append_in {ops : Array Oper} {o : Oper} {a : Act} {K : Act → World → Prop} {Q : Exit → Act → World → Prop} {E : Prop} (hgd : o.guard = none) (s x : Operand) (t : TypeId)
    (ho : o.op = .call { callee := .builtin .append, args := #[s, x], argTypes := #[t, t] })
    (e : TypeId) (i : TypeInfo) (size : Nat) (ht : P.underlying t = some (.slice e)) (hi : P.info? e = some i) (hsize : i.size = size)
    (g n cap : Nat) (xs : List Value) (hs : a.eval s = .slice (some ⟨g, 0, none⟩) n cap) (hrow : Row w e size (.slice (some ⟨g, 0, none⟩) n cap) n cap xs)
    (xv : Value) (m : Nat) (news : List Value) (hx : a.eval x = xv) (hsrc : Src w size xv m news) (h1 : ∀ u ∈ news, u.oneCell' = true) (hroom : n + m ≤ cap)
    (N : Nat) (hN : n + m = N) (ys : List Value) (hys : xs ++ news = ys)
    (h : ∀ w', Row w' e size (.slice (some ⟨g, 0, none⟩) N cap) N cap ys → Kept (fun k => k = g) w w' → K (a.put o.dst (.slice (some ⟨g, 0, none⟩) N cap)) w') :
    if Region.wanted o (yielded ops a.tmps) = true then Oper.wp P o a w K Q else E := by
  have hw : Region.wanted o (yielded ops a.tmps) = true := by simp [Region.wanted, hgd]
  rw [if_pos hw]
  exact wp_append_in s x t ho e i size ht hi hsize g n cap xs hs hrow xv m news hx hsrc h1 hroom N hN ys hys h
end

/-- the first elements of a row -/
theorem Row.take {w : World} {e : TypeId} {size : Nat} {g n cap : Nat} {xs : List Value} (h : Row w e size (.slice (some ⟨g, 0, none⟩) n cap) n cap xs) (k : Nat) (hk : k ≤ n) :
    Row w e size (.slice (some ⟨g, 0, none⟩) k cap) k cap (xs.take (k * size)) := by
  have hks : k * size ≤ n * size := Nat.mul_le_mul_right _ hk
  refine ⟨by rw [List.length_take, h.1]; omega, ?_⟩
  rcases h.2 with ⟨h', _⟩ | ⟨g', cur, hv, hg, hnc, hcm, hcs, htake⟩
  · cases h'
  · cases hv
    exact .inr ⟨g, cur, rfl, hg, by omega, hcm, hcs, by rw [← htake, List.take_take]; congr 1; omega⟩
/-- the elements from k on, at their address -/
theorem Row.srcFrom {w : World} {e : TypeId} {size : Nat} {g n cap : Nat} {xs : List Value} (h : Row w e size (.slice (some ⟨g, 0, none⟩) n cap) n cap xs) (k : Nat) (c : Nat) :
    Src w size (.slice (some ⟨g, k * size, none⟩) (n - k) c) (n - k) (xs.drop (k * size)) := by
  refine ⟨by rw [List.length_drop, h.1, Nat.sub_mul], _, _, rfl, (fun h => by cases h), fun a ha j u hu => ?_⟩
  cases ha
  rcases h.2 with ⟨h', _⟩ | ⟨g', cur, hv, hg, hnc, hcm, hcs, htake⟩
  · cases h'
  · cases hv
    rw [addr_add, cell_of_row w g _ cur e (0, 0) hg]
    rw [List.getElem?_drop, ← htake, List.getElem?_take] at hu
    split at hu
    · simpa using hu
    · cases hu
/-- the cells of a row's block, up to its capacity, are there and may be written -/
theorem Row.there {w : World} {e : TypeId} {size : Nat} {g n cap : Nat} {xs : List Value} (h : Row w e size (.slice (some ⟨g, 0, none⟩) n cap) n cap xs) (k : Nat) (hk : k < cap * size) :
    ∃ u, w.cell? ⟨g, k, none⟩ = some u ∧ w.frozen? ⟨g, k, none⟩ = false := by
  rcases h.2 with ⟨h', _⟩ | ⟨g', cur, hv, hg, hnc, hcm, hcs, htake⟩
  · cases h'
  · cases hv
    exact ⟨cur[k]'(by omega), by rw [cell_of_row w g _ cur e (0, 0) hg]; exact Array.getElem?_eq_getElem (by omega), frozen_of_row w g k cur e hg⟩
/-- a store behind a row's elements leaves the row -/
theorem Row.setBehind {w : World} {e : TypeId} {size : Nat} {g n cap : Nat} {xs : List Value} (h : Row w e size (.slice (some ⟨g, 0, none⟩) n cap) n cap xs) (k : Nat) (hk : n * size ≤ k) (u : Value) :
    Row (w.setCell ⟨g, k, none⟩ u) e size (.slice (some ⟨g, 0, none⟩) n cap) n cap xs := by
  refine ⟨h.1, ?_⟩
  rcases h.2 with ⟨h', _⟩ | ⟨g', cur, hv, hg, hnc, hcm, hcs, htake⟩
  · cases h'
  · cases hv
    refine .inr ⟨g, _, rfl, heap_setCell_same w g k cur e u hg, hnc, hcm, by simpa using hcs, ?_⟩
    rw [← htake, Array.toList_setIfInBounds]
    apply List.ext_getElem?
    intro j
    simp only [List.getElem?_take]
    split
    · rw [List.getElem?_set_ne (by omega)]
    · rfl
/-- a store into a row at cell k -/
theorem Row.set {w : World} {e : TypeId} {size : Nat} {g n cap : Nat} {xs : List Value} (h : Row w e size (.slice (some ⟨g, 0, none⟩) n cap) n cap xs) (k : Nat) (u : Value) :
    Row (w.setCell ⟨g, k, none⟩ u) e size (.slice (some ⟨g, 0, none⟩) n cap) n cap (xs.set k u) := by
  refine ⟨by simpa using h.1, ?_⟩
  rcases h.2 with ⟨h', _⟩ | ⟨g', cur, hv, hg, hnc, hcm, hcs, htake⟩
  · cases h'
  · cases hv
    refine .inr ⟨g, _, rfl, heap_setCell_same w g k cur e u hg, hnc, hcm, by simpa using hcs, ?_⟩
    rw [← htake, Array.toList_setIfInBounds, List.take_set]
end Go.Proofs.Ytlnhdfdalfoocaa
