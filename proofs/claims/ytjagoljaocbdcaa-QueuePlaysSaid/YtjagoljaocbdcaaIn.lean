/- Reading a slice of requests that came in, inside a walk. -/
import Derived.Test.YtjagoljaocbdcaaQA
namespace Go.Proofs.Ytjagoljaocbdcaa
open Go.RowKit

theorem in_get {w wr : World} {b off k : Nat} {l : List Ask} {x : Ask} (hk : Kept NoB w wr) (hi : k < l.length) (hx : l[k] = x)
    (hin : ∀ i a, l[i]? = some a → ∀ j u, a.cells[j]? = some u → w.cell? ⟨b, off + (i * 6 + j), none⟩ = some u) :
    wr.cell? ⟨b, off + k * 6, none⟩ = some (.int .i64 x.job) ∧ wr.cell? ⟨b, off + k * 6 + 1, none⟩ = some (.int .i64 x.op) ∧ wr.cell? ⟨b, off + k * 6 + 2, none⟩ = some (.int .i64 x.cart) ∧
    wr.cell? ⟨b, off + k * 6 + 3, none⟩ = some (.int .i64 x.pos) ∧ wr.cell? ⟨b, off + k * 6 + 4, none⟩ = some (.int .i64 x.slot) ∧ wr.cell? ⟨b, off + k * 6 + 5, none⟩ = some (.int .i64 x.born) := by
  have key : ∀ j u, x.cells[j]? = some u → wr.cell? ⟨b, off + k * 6 + j, none⟩ = some u := fun j u hu => by
    have h := hin k x (by rw [List.getElem?_eq_getElem hi, hx]) j u hu
    rw [← Nat.add_assoc] at h
    exact hk.cell h (fun h => h)
  exact ⟨key 0 _ rfl, key 1 _ rfl, key 2 _ rfl, key 3 _ rfl, key 4 _ rfl, key 5 _ rfl⟩

theorem st_take0 (bq : Nat) (most : Int) (l : List Ask) (M j : Nat) (x : Ask) (w wr : World) (h : St w wr bq most ((l.take M).drop j)) (hj : j < M) (hM : M ≤ l.length) (hx : l[j]'(by omega) = x) :
    Calls Try.prog 10 #[.pointer (some ⟨bq, 0, none⟩), .int .i64 0] wr fun e w' => e = .returned (.tuple #[x.val, .bool true]) ∧ St w w' bq most ((l.take M).drop (j + 1)) := by
  have hl : 0 < ((l.take M).drop j).length := by simp; omega
  have ht : took ((l.take M).drop j) 0 = (x, true) := by
    unfold took
    rw [if_pos ⟨by decide, by omega⟩]
    have : ((l.take M).drop j)[(0 : Int).toNat]? = some x := by
      show ((l.take M).drop j)[0]? = some x
      rw [List.getElem?_drop, Nat.add_zero, List.getElem?_take_of_lt hj, List.getElem?_eq_getElem (by omega), hx]
    rw [this]; rfl
  have hr : rest ((l.take M).drop j) 0 = (l.take M).drop (j + 1) := by
    unfold rest
    rw [if_pos ⟨by decide, by omega⟩]
    show ((l.take M).drop j).eraseIdx 0 = _
    rw [List.eraseIdx_zero, List.tail_drop]
  have h1 := st_take bq most ((l.take M).drop j) 0 w wr h
  rw [ht, hr] at h1
  exact h1

theorem so_kept {w W W' : World} {A b off j bq : Nat} {most : Int} {L : List Ask} {x : Ask} (h : (W.cell? ⟨A, 0, none⟩ = some (.int .i64 x.job) ∧ W.cell? ⟨A, 1, none⟩ = some (.int .i64 x.op) ∧ W.cell? ⟨A, 2, none⟩ = some (.int .i64 x.cart) ∧ W.cell? ⟨A, 3, none⟩ = some (.int .i64 x.pos) ∧ W.cell? ⟨A, 4, none⟩ = some (.int .i64 x.slot) ∧ W.cell? ⟨A, 5, none⟩ = some (.int .i64 x.born)) ∧ (W.cell? ⟨b, off + j * 6, none⟩ = some (.int .i64 x.job) ∧ W.cell? ⟨b, off + j * 6 + 1, none⟩ = some (.int .i64 x.op) ∧ W.cell? ⟨b, off + j * 6 + 2, none⟩ = some (.int .i64 x.cart) ∧ W.cell? ⟨b, off + j * 6 + 3, none⟩ = some (.int .i64 x.pos) ∧ W.cell? ⟨b, off + j * 6 + 4, none⟩ = some (.int .i64 x.slot) ∧ W.cell? ⟨b, off + j * 6 + 5, none⟩ = some (.int .i64 x.born)) ∧ St w W bq most L) (k : Kept NoB W W') : (W'.cell? ⟨A, 0, none⟩ = some (.int .i64 x.job) ∧ W'.cell? ⟨A, 1, none⟩ = some (.int .i64 x.op) ∧ W'.cell? ⟨A, 2, none⟩ = some (.int .i64 x.cart) ∧ W'.cell? ⟨A, 3, none⟩ = some (.int .i64 x.pos) ∧ W'.cell? ⟨A, 4, none⟩ = some (.int .i64 x.slot) ∧ W'.cell? ⟨A, 5, none⟩ = some (.int .i64 x.born)) ∧ (W'.cell? ⟨b, off + j * 6, none⟩ = some (.int .i64 x.job) ∧ W'.cell? ⟨b, off + j * 6 + 1, none⟩ = some (.int .i64 x.op) ∧ W'.cell? ⟨b, off + j * 6 + 2, none⟩ = some (.int .i64 x.cart) ∧ W'.cell? ⟨b, off + j * 6 + 3, none⟩ = some (.int .i64 x.pos) ∧ W'.cell? ⟨b, off + j * 6 + 4, none⟩ = some (.int .i64 x.slot) ∧ W'.cell? ⟨b, off + j * 6 + 5, none⟩ = some (.int .i64 x.born)) ∧ St w W' bq most L := by
  obtain ⟨⟨h0, h1, h2, h3, h4, h5⟩, ⟨g0, g1, g2, g3, g4, g5⟩, hs⟩ := h
  exact ⟨⟨k.cell h0 (fun h => h), k.cell h1 (fun h => h), k.cell h2 (fun h => h), k.cell h3 (fun h => h), k.cell h4 (fun h => h), k.cell h5 (fun h => h)⟩,
    ⟨k.cell g0 (fun h => h), k.cell g1 (fun h => h), k.cell g2 (fun h => h), k.cell g3 (fun h => h), k.cell g4 (fun h => h), k.cell g5 (fun h => h)⟩, hs.kept k⟩
theorem so_st {w W : World} {A b off j bq : Nat} {most : Int} {L : List Ask} {x : Ask} (h : (W.cell? ⟨A, 0, none⟩ = some (.int .i64 x.job) ∧ W.cell? ⟨A, 1, none⟩ = some (.int .i64 x.op) ∧ W.cell? ⟨A, 2, none⟩ = some (.int .i64 x.cart) ∧ W.cell? ⟨A, 3, none⟩ = some (.int .i64 x.pos) ∧ W.cell? ⟨A, 4, none⟩ = some (.int .i64 x.slot) ∧ W.cell? ⟨A, 5, none⟩ = some (.int .i64 x.born)) ∧ (W.cell? ⟨b, off + j * 6, none⟩ = some (.int .i64 x.job) ∧ W.cell? ⟨b, off + j * 6 + 1, none⟩ = some (.int .i64 x.op) ∧ W.cell? ⟨b, off + j * 6 + 2, none⟩ = some (.int .i64 x.cart) ∧ W.cell? ⟨b, off + j * 6 + 3, none⟩ = some (.int .i64 x.pos) ∧ W.cell? ⟨b, off + j * 6 + 4, none⟩ = some (.int .i64 x.slot) ∧ W.cell? ⟨b, off + j * 6 + 5, none⟩ = some (.int .i64 x.born)) ∧ St w W bq most L) : St w W bq most L := h.2.2
end Go.Proofs.Ytjagoljaocbdcaa
