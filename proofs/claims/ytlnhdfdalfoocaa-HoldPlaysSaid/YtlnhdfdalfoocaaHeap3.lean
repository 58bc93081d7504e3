/- clear, over the cells behind a row's elements. -/
import Derived.Test.YtlnhdfdalfoocaaHeap2
namespace Go.Proofs.Ytlnhdfdalfoocaa
open Go.RowKit

theorem run_clear_row {P : Program} (w : World) (t ty e : TypeId) (i : TypeInfo) (z : Value) (size : Nat) (ht : P.underlying t = some (.slice e)) (hi : P.info? e = some i) (hz : i.zero = some z) (hzs : z.cells.size = size)
    (hz1 : ∀ u ∈ z.cells.toList, u.oneCell' = true) (g k m c n cap : Nat) (xs : List Value) (hrow : Row w e size (.slice (some ⟨g, 0, none⟩) n cap) n cap xs) (hnk : n ≤ k) (hkm : k + m ≤ cap) :
    ∃ w', (Builtin.clear_ #[t] ty #[.slice (some ⟨g, k * size, none⟩) m c]).run P w = .ok (.tuple #[]) w' ∧ Row w' e size (.slice (some ⟨g, 0, none⟩) n cap) n cap xs ∧ Kept (fun k => k = g) w w' := by
  cases m with
  | zero => exact ⟨w, by simp [Builtin.clear_, run_underlying ht], hrow, Kept.refl _ _⟩
  | succ m =>
    rcases hrow.2 with ⟨h', _⟩ | ⟨g', cur, hv, hg, hnc, hcm, hcs, htake⟩
    · cases h'
    · cases hv
      have hlen : (Builtin.zeroCells z.cells (m + 1)).toList.length = (m + 1) * size := by
        rw [Array.length_toList, size_zeroCells, hzs]
      have hks : (k + (m + 1)) * size ≤ cap * size := Nat.mul_le_mul_right _ hkm
      rw [Nat.add_mul] at hks
      have hnks : n * size ≤ k * size := Nat.mul_le_mul_right _ hnk
      have hst := run_storeCells_at P g (k * size) e (Builtin.zeroCells z.cells (m + 1)).toList 0 cur w hg (by rw [hlen]; omega) (by
        intro u hu
        have hu' : u ∈ Builtin.zeroCells z.cells (m + 1) := by simpa using hu
        unfold Builtin.zeroCells at hu'
        obtain ⟨j, hj, rfl⟩ := Array.mem_map.1 hu'
        have hpos : 0 < z.cells.size := by
          rcases Nat.eq_zero_or_pos z.cells.size with h0 | h0
          · rw [Array.mem_range, h0] at hj; simp at hj
          · exact h0
        have hlt := Nat.mod_lt j hpos
        rw [getElem!_pos z.cells _ hlt]
        exact hz1 _ (by simp))
      simp only [Nat.add_zero] at hst
      refine ⟨w.setRow g (cur.toList.take (k * size) ++ (Builtin.zeroCells z.cells (m + 1)).toList ++ cur.toList.drop (k * size + (Builtin.zeroCells z.cells (m + 1)).toList.length)).toArray, ?_, ⟨hrow.1, .inr ⟨g, _, rfl, setRow_heap w g cur _ e _ hg, hnc, hcm, ?_, ?_⟩⟩, Kept.setRow (S := fun k => k = g) (g := g) (Kept.refl _ w) (fun _ => rfl) _⟩
      · simp [Builtin.clear_, run_underlying ht, zeroValue, typeInfo, hi, hz, hst]
      · simp only [List.size_toArray, List.length_append, List.length_take, List.length_drop, Array.length_toList, hlen]
        omega
      · rw [← htake]
        simp only [List.append_assoc]
        rw [List.take_append_of_le_length (by rw [List.length_take, Array.length_toList]; omega), List.take_take]
        congr 1
        omega
theorem wpList_clear_row {P : Program} {w : World} {ops : Array Oper} {rest : List Oper} {o : Oper} {a : Act} {Q : Exit → Act → World → Prop} (hgd : o.guard = none) (s : Operand) (t : TypeId)
    (ho : o.op = .call { callee := .builtin .clear, args := #[s], argTypes := #[t] })
    (e : TypeId) (i : TypeInfo) (z : Value) (size : Nat) (ht : P.underlying t = some (.slice e)) (hi : P.info? e = some i) (hz : i.zero = some z) (hzs : z.cells.size = size)
    (hz1 : ∀ u ∈ z.cells.toList, u.oneCell' = true) (g k m c n cap : Nat) (xs : List Value) (hs : a.eval s = .slice (some ⟨g, k * size, none⟩) m c) (hrow : Row w e size (.slice (some ⟨g, 0, none⟩) n cap) n cap xs) (hnk : n ≤ k) (hkm : k + m ≤ cap)
    (h : ∀ w', Row w' e size (.slice (some ⟨g, 0, none⟩) n cap) n cap xs → Kept (fun k => k = g) w w' → wpList P ops Q rest (a.put o.dst (.tuple #[])) w') : wpList P ops Q (o :: rest) a w := by
  refine wpList_plain hgd fun K hK => ?_
  obtain ⟨w', hr, h2, h3⟩ := run_clear_row (P := P) w t o.type e i z size ht hi hz hzs hz1 g k m c n cap xs hrow hnk hkm
  unfold Oper.wp execOp
  simp only [ho, resolve, invoke, builtin, Sem.run_bind, Sem.run_pure, Result.andThen_ok, List.map_toArray, List.map_cons, List.map_nil, hs, hr]
  exact hK _ _ (h w' h2 h3)
end Go.Proofs.Ytlnhdfdalfoocaa
