/- Worlds and rows: what the walks of this seat say of memory. No program in sight. 'Kept S w w2': all blocks of w but those of S are in w2 as they were. 'Row': a slice value that starts at its block's head, and the cells of its elements. -/
import Derived.Laws.AppendOwn
import Derived.Laws.Rows
import Derived.Deep.RegionLaw
import Derived.Below
import Derived.WalkKit
import Derived.Lib.Hide
import Derived.Deep.QuietTactic
import Derived.BigQuiet
namespace Go.Proofs.Ytlnhdfdalfoocaa
open Go.RowKit

/-! ### Kept -/
structure Kept (S : Nat → Prop) (w w' : World) : Prop where
  os : w'.os = w.os
  tape : w'.tape = w.tape
  output : w'.output = w.output
  size : w.heap.size ≤ w'.heap.size
  block : ∀ k, k < w.heap.size → ¬ S k → w'.heap[k]? = w.heap[k]?

def NoB : Nat → Prop := fun _ => False

theorem lt_of_heap {w : World} {k : Nat} {o : Obj} (h : w.heap[k]? = some o) : k < w.heap.size := (Array.getElem?_eq_some_iff.1 h).1

theorem Kept.refl (S : Nat → Prop) (w : World) : Kept S w w := ⟨rfl, rfl, rfl, Nat.le_refl _, fun _ _ _ => rfl⟩
theorem Kept.trans {S S' : Nat → Prop} {a b c : World} (h : Kept S a b) (k : Kept S' b c) (hs : ∀ i, i < a.heap.size → S' i → S i) : Kept S a c :=
  ⟨k.os.trans h.os, k.tape.trans h.tape, k.output.trans h.output, Nat.le_trans h.size k.size,
    fun i hi hn => (k.block i (Nat.lt_of_lt_of_le hi h.size) (fun h' => hn (hs i hi h'))).trans (h.block i hi hn)⟩
theorem Kept.mono {S S' : Nat → Prop} {a b : World} (h : Kept S a b) (hs : ∀ i, i < a.heap.size → S i → S' i) : Kept S' a b :=
  ⟨h.os, h.tape, h.output, h.size, fun i hi hn => h.block i hi (fun h' => hn (hs i hi h'))⟩
theorem Kept.then {S : Nat → Prop} {a b c : World} (h : Kept S a b) (k : Kept NoB b c) : Kept S a c := h.trans k (fun _ _ h' => h'.elim)
theorem Kept.of_none {S : Nat → Prop} {a b : World} (h : Kept NoB a b) : Kept S a b := h.mono (fun _ _ h' => h'.elim)
theorem Kept.alloc {S : Nat → Prop} {a b : World} (h : Kept S a b) (o : Obj) : Kept S a (b.alloc o) :=
  h.then ⟨rfl, rfl, rfl, by simp, fun k hk _ => Below.heap_alloc _ _ _ hk⟩
theorem Kept.drew {S : Nat → Prop} {a b : World} (h : Kept S a b) : Kept S a b.drew := h.then ⟨rfl, rfl, rfl, Nat.le_refl _, fun _ _ _ => rfl⟩
theorem Kept.drewN {S : Nat → Prop} {a b : World} (h : Kept S a b) (n : Nat) : Kept S a (b.drewN n) := h.then ⟨rfl, rfl, rfl, Nat.le_refl _, fun _ _ _ => rfl⟩
theorem Kept.setCell {S : Nat → Prop} {a b : World} (h : Kept S a b) {p : Addr} (hp : p.block < a.heap.size → S p.block) (u : Value) : Kept S a (b.setCell p u) :=
  h.trans (S' := fun k => k = p.block) ⟨rfl, rfl, rfl, by simp [World.setCell], fun k _ hk => Below.heap_setCell _ _ _ _ hk⟩ (fun i hi e => e ▸ hp (e ▸ hi))
theorem Kept.setRow {S : Nat → Prop} {a b : World} (h : Kept S a b) {g : Nat} (hp : g < a.heap.size → S g) (cs : Array Value) : Kept S a (b.setRow g cs) :=
  h.trans (S' := fun k => k = g) ⟨rfl, rfl, rfl, by simp, fun k _ hk => setRow_other _ _ _ _ hk⟩ (fun i hi e => e ▸ hp (e ▸ hi))
theorem Kept.grown {S : Nat → Prop} {a b c : World} {row : Option Nat} (h : Kept S a b) (hg : b.grownBy c row) (hr : ∀ k, row = some k → k < a.heap.size → S k) : Kept S a c :=
  h.trans (S' := fun k => row = some k) ⟨hg.os, hg.tape, hg.output, hg.size, fun k hk hn => hg.block k hk (fun e => hn e.symm)⟩ (fun i hi e => hr i e hi)
theorem Kept.below {S : Nat → Prop} {a b : World} {B : Nat} (h : Kept S a b) (hB : B ≤ a.heap.size) (hs : ∀ k, k < B → ¬ S k) : Below B a b :=
  ⟨h.os, h.tape, h.output, h.size, fun k hk => h.block k (Nat.lt_of_lt_of_le hk hB) (hs k hk)⟩
theorem Kept.of_below {a b : World} {B : Nat} (h : Below B a b) : Kept (fun k => B ≤ k) a b :=
  ⟨h.os, h.tape, h.output, h.size, fun k _ hn => h.block k (by omega)⟩
theorem Kept.of_below_all {a b : World} (h : Below a.heap.size a b) : Kept NoB a b :=
  ⟨h.os, h.tape, h.output, h.size, fun k hk _ => h.block k hk⟩
theorem Kept.heap {S : Nat → Prop} {a b : World} (h : Kept S a b) {k : Nat} {o : Obj} (hk : a.heap[k]? = some o) (hn : ¬ S k) : b.heap[k]? = some o :=
  (h.block k (lt_of_heap hk) hn).trans hk
theorem Kept.cell {S : Nat → Prop} {a b : World} (h : Kept S a b) {p : Addr} {v : Value} (hk : a.cell? p = some v) (hn : ¬ S p.block) : b.cell? p = some v :=
  (World.cell?_of_block (h.block p.block (block_lt_of_cell hk) hn)).trans hk

/-! ### Row -/
def Row (w : World) (e : TypeId) (size : Nat) (v : Value) (n cap : Nat) (xs : List Value) : Prop :=
  xs.length = n * size ∧
  ((v = .slice none 0 0 ∧ n = 0 ∧ cap = 0) ∨
   ∃ g cur, v = .slice (some ⟨g, 0, none⟩) n cap ∧ w.heap[g]? = some (.cells cur e (0, 0)) ∧ n ≤ cap ∧ cap ≤ maxLen ∧ cap * size ≤ cur.size ∧ cur.toList.take (n * size) = xs)

theorem Row.nil (w : World) (e : TypeId) (size : Nat) : Row w e size (.slice none 0 0) 0 0 [] := ⟨by simp, .inl ⟨rfl, rfl, rfl⟩⟩
theorem Row.kept {S : Nat → Prop} {w w' : World} {e : TypeId} {size : Nat} {v : Value} {n cap : Nat} {xs : List Value} (h : Row w e size v n cap xs) (hk : Kept S w w') (hs : ∀ g, v.ownBlock = some g → ¬ S g) : Row w' e size v n cap xs := by
  refine ⟨h.1, ?_⟩
  rcases h.2 with hn | ⟨g, cur, rfl, hg, rest⟩
  · exact .inl hn
  · exact .inr ⟨g, cur, rfl, hk.heap hg (hs g rfl), rest⟩
theorem Row.lt {w : World} {e : TypeId} {size : Nat} {v : Value} {n cap : Nat} {xs : List Value} (h : Row w e size v n cap xs) : ∀ g, v.ownBlock = some g → g < w.heap.size := by
  intro g hg
  rcases h.2 with ⟨rfl, _⟩ | ⟨g', cur, rfl, hgg, _⟩
  · simp [Value.ownBlock] at hg
  · simp [Value.ownBlock] at hg; subst hg; exact lt_of_heap hgg
theorem Row.own {w : World} {e : TypeId} {size : Nat} {v : Value} {n : Nat} {xs : List Value} {base : Nat} (h : w.ownsRow base e size v n xs) : ∃ cap, Row w e size v n cap xs := by
  rcases h.2 with ⟨rfl, rfl⟩ | ⟨g, cap, cur, rfl, _, hg, h1, h2, h3, h4⟩
  · exact ⟨0, h.1, .inl ⟨rfl, rfl, rfl⟩⟩
  · exact ⟨cap, h.1, .inr ⟨g, cur, rfl, hg, h1, h2, by omega, h4⟩⟩
theorem Row.form {w : World} {e : TypeId} {size : Nat} {v : Value} {n cap : Nat} {xs : List Value} (h : Row w e size v n cap xs) : ∃ ao, v = .slice ao n cap := by
  rcases h.2 with ⟨rfl, rfl, rfl⟩ | ⟨g, cur, rfl, _⟩
  · exact ⟨_, rfl⟩
  · exact ⟨_, rfl⟩

theorem addr_add (g o j : Nat) : (⟨g, o, none⟩ : Addr).add j = ⟨g, o + j, none⟩ := by unfold Addr.add; split <;> simp_all

/-- append onto a row: there is room, and the row is written behind its elements; or there is none, and a new block holds all. -/
theorem run_append_row {P : Program} (w : World) (t ty e : TypeId) (i : TypeInfo) (z : Value) (size bytes : Nat) (ht : P.underlying t = some (.slice e)) (hi : P.info? e = some i) (hz : i.zero = some z)
    (hsize : i.size = size) (hby : i.bytes = bytes) (hzs : z.cells.size = size) (hsz : 0 < size)
    (v : Value) (n cap : Nat) (xs : List Value) (hrow : Row w e size v n cap xs)
    (a : Addr) (m c : Nat) (news : List Value) (hl : news.length = m * size) (hnews : ∀ j u, news[j]? = some u → w.cell? (a.add j) = some u) (h1 : ∀ u ∈ news, u.oneCell' = true)
    (hm : 0 < m) (h63 : n + m ≤ maxLen) (hbytes : (n + m) * bytes ≤ 140737488355328) :
    ∃ g cap' w', (Builtin.append_ #[t, t] ty #[v, .slice (some a) m c]).run P w = .ok (.slice (some ⟨g, 0, none⟩) (n + m) cap') w' ∧ Row w' e size (.slice (some ⟨g, 0, none⟩) (n + m) cap') (n + m) cap' (xs ++ news) ∧
      w.grownBy w' v.ownBlock ∧ (v.ownBlock = some g ∨ g = w.heap.size) ∧ (cap < n + m → w.grownBy w' none) := by
  subst hsize
  subst hby
  have hsmall : n + m ≤ 9223372036854775807 := by simp only [maxLen] at h63; omega
  have hlen : (xs ++ news).length = (n + m) * i.size := by rw [List.length_append, hrow.1, hl, Nat.add_mul]
  have grown : ∀ (old : Nat), old < n + m → ∀ (row : Option Nat),
      Row (w.drew.alloc (.cells (xs.toArray ++ news.toArray ++ Builtin.zeroCells z.cells (grownCap w (n + m) old e - (n + m))) e)) e i.size
        (.slice (some ⟨w.heap.size, 0, none⟩) (n + m) (grownCap w (n + m) old e)) (n + m) (grownCap w (n + m) old e) (xs ++ news) ∧
      w.grownBy (w.drew.alloc (.cells (xs.toArray ++ news.toArray ++ Builtin.zeroCells z.cells (grownCap w (n + m) old e - (n + m))) e)) row := by
    intro old ho row
    have hge := grownCap_ge w (n + m) old e
    have hcm : grownCap w (n + m) old e ≤ maxLen := grownCap_le_maxLen w (n + m) old e h63
    refine ⟨⟨hlen, .inr ⟨w.heap.size, _, rfl, heap_alloc_new w.drew _, hge, hcm, ?_, ?_⟩⟩, ⟨rfl, rfl, rfl, by simp, fun k hk _ => Below.heap_alloc w.drew _ k hk⟩⟩
    · simp only [Array.size_append, List.size_toArray, size_zeroCells, hzs, hrow.1, hl, ← Nat.add_mul]
      apply Nat.le_of_eq
      congr 1
      omega
    · simp only [Array.toList_append, List.append_assoc]
      rw [← List.append_assoc, ← hlen]
      exact List.take_left
  rcases hrow.2 with ⟨rfl, rfl, rfl⟩ | ⟨g, cur, rfl, hg, hnc, hcm, hcs, htake⟩
  · have hx : xs = [] := List.eq_nil_of_length_eq_zero (by simpa using hrow.1)
    subst hx
    have hr := run_append_nil (P := P) w t ty e i z ht hi hz a m c news hl hnews (by omega) (by omega) (by have hb := hbytes; simp only [Nat.zero_add] at hb; omega)
    have hgr := grown 0 (by omega) (Value.ownBlock (.slice none 0 0))
    simp only [Nat.zero_add, List.nil_append, Array.empty_append] at hgr ⊢
    exact ⟨_, _, _, hr, hgr.1, hgr.2, .inr rfl, fun _ => hgr.2⟩
  · by_cases hroom : n + m ≤ cap
    · have hfit : n * i.size + news.length ≤ cur.size := by
        rw [hl, ← Nat.add_mul]; exact Nat.le_trans (Nat.mul_le_mul_right _ hroom) hcs
      have hr := run_append_room (P := P) w t ty e i ht hi g n cap cur hg a m c news hl hnews h1 hroom hfit
      refine ⟨_, _, _, hr, ⟨hlen, .inr ⟨g, _, rfl, setRow_heap w g cur _ e _ hg, hroom, hcm, ?_, ?_⟩⟩, ⟨rfl, rfl, rfl, by simp, fun k _ hk => setRow_other w g k _ (fun e => hk (by simp [Value.ownBlock, e]))⟩, .inl rfl, fun h => absurd hroom (by omega)⟩
      · simp only [List.size_toArray, List.length_append, List.length_take, List.length_drop, Array.length_toList]
        omega
      · rw [htake, ← hlen]
        exact List.take_left
    · have holds : ∀ j u, xs[j]? = some u → w.cell? ((⟨g, 0, none⟩ : Addr).add j) = some u := by
        intro j u hu
        rw [addr_add, Nat.zero_add, cell_of_row w g j cur e (0, 0) hg]
        rw [← htake, List.getElem?_take] at hu
        split at hu
        · simpa using hu
        · cases hu
      have hr := run_append_grow (P := P) w t ty e i z ht hi hz ⟨g, 0, none⟩ n cap xs hrow.1 holds a m c news hl hnews (by omega) (by omega) (growslice_fits (by omega) hbytes)
      have hgr := grown cap (by omega) (Value.ownBlock (.slice (some ⟨g, 0, none⟩) n cap))
      exact ⟨_, _, _, hr, hgr.1, hgr.2, .inr rfl, fun _ => (grown cap (by omega) none).2⟩

section
variable {P : Program} {w : World}
theorem wp_append_row {o : Oper} {a : Act} {K : Act → World → Prop} {Q : Exit → Act → World → Prop} (s x : Operand) (t : TypeId)
    (ho : o.op = .call { callee := .builtin .append, args := #[s, x], argTypes := #[t, t] })
    (e : TypeId) (i : TypeInfo) (z : Value) (size bytes : Nat) (ht : P.underlying t = some (.slice e)) (hi : P.info? e = some i) (hz : i.zero = some z)
    (hsize : i.size = size) (hby : i.bytes = bytes) (hzs : z.cells.size = size) (hsz : 0 < size)
    (v : Value) (n cap : Nat) (xs : List Value) (hs : a.eval s = v) (hrow : Row w e size v n cap xs)
    (ad : Addr) (m c : Nat) (news : List Value) (hx : a.eval x = .slice (some ad) m c) (hl : news.length = m * size) (hnews : ∀ j u, news[j]? = some u → w.cell? (ad.add j) = some u) (h1 : ∀ u ∈ news, u.oneCell' = true)
    (hm : 0 < m) (h63 : n + m ≤ maxLen) (hbytes : (n + m) * bytes ≤ 140737488355328)
    (h : ∀ g cap' w', Row w' e size (.slice (some ⟨g, 0, none⟩) (n + m) cap') (n + m) cap' (xs ++ news) → w.grownBy w' v.ownBlock → (v.ownBlock = some g ∨ g = w.heap.size) → K (a.put o.dst (.slice (some ⟨g, 0, none⟩) (n + m) cap')) w') : o.wp P a w K Q := by
  obtain ⟨g, cap', w', hr, h2, h3, h4, _⟩ := run_append_row (P := P) w t o.type e i z size bytes ht hi hz hsize hby hzs hsz v n cap xs hrow ad m c news hl hnews h1 hm h63 hbytes
  unfold Oper.wp execOp
  simp only [ho, resolve, invoke, builtin, Sem.run_bind, Sem.run_pure, Result.andThen_ok, List.map_toArray, List.map_cons, List.map_nil, hs, hx, hr]
  exact h g cap' w' h2 h3 h4
theorem wpList_append_row {ops : Array Oper} {rest : List Oper} {o : Oper} {a : Act} {Q : Exit → Act → World → Prop} (hgd : o.guard = none) (s x : Operand) (t : TypeId)
    (ho : o.op = .call { callee := .builtin .append, args := #[s, x], argTypes := #[t, t] })
    (e : TypeId) (i : TypeInfo) (z : Value) (size bytes : Nat) (ht : P.underlying t = some (.slice e)) (hi : P.info? e = some i) (hz : i.zero = some z)
    (hsize : i.size = size) (hby : i.bytes = bytes) (hzs : z.cells.size = size) (hsz : 0 < size)
    (v : Value) (n cap : Nat) (xs : List Value) (hs : a.eval s = v) (hrow : Row w e size v n cap xs)
    (ad : Addr) (m c : Nat) (news : List Value) (hx : a.eval x = .slice (some ad) m c) (hl : news.length = m * size) (hnews : ∀ j u, news[j]? = some u → w.cell? (ad.add j) = some u) (h1 : ∀ u ∈ news, u.oneCell' = true)
    (hm : 0 < m) (h63 : n + m ≤ maxLen) (hbytes : (n + m) * bytes ≤ 140737488355328)
    (h : ∀ g cap' w', Row w' e size (.slice (some ⟨g, 0, none⟩) (n + m) cap') (n + m) cap' (xs ++ news) → w.grownBy w' v.ownBlock → (v.ownBlock = some g ∨ g = w.heap.size) → wpList P ops Q rest (a.put o.dst (.slice (some ⟨g, 0, none⟩) (n + m) cap')) w') : wpList P ops Q (o :: rest) a w :=
  wpList_plain hgd fun _ hK => wp_append_row s x t ho e i z size bytes ht hi hz hsize hby hzs hsz v n cap xs hs hrow ad m c news hx hl hnews h1 hm h63 hbytes fun g cap' w' h2 h3 h4 => hK _ _ (h g cap' w' h2 h3 h4)
theorem step_append_row {ops : Array Oper} {o : Oper} {a : Act} {K : Act → World → Prop} {Q : Exit → Act → World → Prop} {E : Prop} (hgd : o.guard = none) (s x : Operand) (t : TypeId)
    (ho : o.op = .call { callee := .builtin .append, args := #[s, x], argTypes := #[t, t] })
    (e : TypeId) (i : TypeInfo) (z : Value) (size bytes : Nat) (ht : P.underlying t = some (.slice e)) (hi : P.info? e = some i) (hz : i.zero = some z)
    (hsize : i.size = size) (hby : i.bytes = bytes) (hzs : z.cells.size = size) (hsz : 0 < size)
    (v : Value) (n cap : Nat) (xs : List Value) (hs : a.eval s = v) (hrow : Row w e size v n cap xs)
    (ad : Addr) (m c : Nat) (news : List Value) (hx : a.eval x = .slice (some ad) m c) (hl : news.length = m * size) (hnews : ∀ j u, news[j]? = some u → w.cell? (ad.add j) = some u) (h1 : ∀ u ∈ news, u.oneCell' = true)
    (hm : 0 < m) (h63 : n + m ≤ maxLen) (hbytes : (n + m) * bytes ≤ 140737488355328)
    (h : ∀ g cap' w', Row w' e size (.slice (some ⟨g, 0, none⟩) (n + m) cap') (n + m) cap' (xs ++ news) → w.grownBy w' v.ownBlock → (v.ownBlock = some g ∨ g = w.heap.size) → K (a.put o.dst (.slice (some ⟨g, 0, none⟩) (n + m) cap')) w') :
    if Region.wanted o (yielded ops a.tmps) = true then Oper.wp P o a w K Q else E := by
  have hw : Region.wanted o (yielded ops a.tmps) = true := by simp [Region.wanted, hgd]
  rw [if_pos hw]
  exact wp_append_row s x t ho e i z size bytes ht hi hz hsize hby hzs hsz v n cap xs hs hrow ad m c news hx hl hnews h1 hm h63 hbytes h
end

/-- the cells that are appended: of a nil slice none; else they are read at the slice's address -/
def Src (w : World) (size : Nat) (x : Value) (m : Nat) (news : List Value) : Prop :=
  news.length = m * size ∧ ∃ ao c, x = .slice ao m c ∧ (ao = none → m = 0) ∧ ∀ a, ao = some a → ∀ j u, news[j]? = some u → w.cell? (a.add j) = some u
theorem Row.src {w : World} {e : TypeId} {size : Nat} {v : Value} {n cap : Nat} {xs : List Value} (h : Row w e size v n cap xs) : Src w size v n xs := by
  refine ⟨h.1, ?_⟩
  rcases h.2 with ⟨rfl, rfl, rfl⟩ | ⟨g, cur, rfl, hg, _, _, _, htake⟩
  · exact ⟨none, 0, rfl, fun _ => rfl, fun a ha => by cases ha⟩
  · refine ⟨_, _, rfl, (fun h => by cases h), fun a ha j u hu => ?_⟩
    cases ha
    rw [addr_add, Nat.zero_add, cell_of_row w g j cur e (0, 0) hg]
    rw [← htake, List.getElem?_take] at hu
    split at hu
    · simpa using hu
    · cases hu

theorem run_append_none {P : Program} (w : World) (t ty e : TypeId) (i : TypeInfo) (ht : P.underlying t = some (.slice e)) (hi : P.info? e = some i)
    (v : Value) (size n cap : Nat) (xs : List Value) (hrow : Row w e size v n cap xs) (ao : Option Addr) (c : Nat) :
    (Builtin.append_ #[t, t] ty #[v, .slice ao 0 c]).run P w = .ok v w := by
  rcases hrow.2 with ⟨rfl, rfl, rfl⟩ | ⟨g, cur, rfl, hg, hnc, hcm, hcs, htake⟩
  · cases ao <;> simp [Builtin.append_, run_underlying ht, sizeOf, typeInfo, hi, Builtin.lenOf, Builtin.firstCells, loadCells, loadCellsFrom]
  · cases ao <;> simp [Builtin.append_, run_underlying ht, sizeOf, typeInfo, hi, Builtin.lenOf, Builtin.firstCells, loadCells, loadCellsFrom, hnc, storeCells]

/-- append, whatever is appended -/
theorem run_append_any {P : Program} (w : World) (t ty e : TypeId) (i : TypeInfo) (z : Value) (size bytes : Nat) (ht : P.underlying t = some (.slice e)) (hi : P.info? e = some i) (hz : i.zero = some z)
    (hsize : i.size = size) (hby : i.bytes = bytes) (hzs : z.cells.size = size) (hsz : 0 < size)
    (v : Value) (n cap : Nat) (xs : List Value) (hrow : Row w e size v n cap xs)
    (x : Value) (m : Nat) (news : List Value) (hsrc : Src w size x m news) (h1 : ∀ u ∈ news, u.oneCell' = true)
    (h63 : n + m ≤ maxLen) (hbytes : (n + m) * bytes ≤ 140737488355328) :
    ∃ ao cap' w', (Builtin.append_ #[t, t] ty #[v, x]).run P w = .ok (.slice ao (n + m) cap') w' ∧ Row w' e size (.slice ao (n + m) cap') (n + m) cap' (xs ++ news) ∧
      w.grownBy w' v.ownBlock ∧ ((Value.slice ao (n + m) cap').ownBlock = v.ownBlock ∨ (Value.slice ao (n + m) cap').ownBlock = some w.heap.size) ∧ (cap = n → w.grownBy w' none) := by
  obtain ⟨hl, ao, c, rfl, hnone, hcells⟩ := hsrc
  by_cases hm : m = 0
  · subst hm
    have hn : news = [] := List.eq_nil_of_length_eq_zero (by simpa using hl)
    subst hn
    have hr := run_append_none (P := P) w t ty e i ht hi v size n cap xs hrow ao c
    obtain ⟨ao', rfl⟩ := hrow.form
    exact ⟨ao', cap, w, hr, by simpa using hrow, ⟨rfl, rfl, rfl, Nat.le_refl _, fun _ _ _ => rfl⟩, .inl rfl, fun _ => ⟨rfl, rfl, rfl, Nat.le_refl _, fun _ _ _ => rfl⟩⟩
  · cases ao with
    | none => exact absurd (hnone rfl) hm
    | some a =>
      obtain ⟨g, cap', w', hr, h2, h3, h4, h5⟩ := run_append_row (P := P) w t ty e i z size bytes ht hi hz hsize hby hzs hsz v n cap xs hrow a m c news hl (hcells a rfl) h1 (by omega) h63 hbytes
      refine ⟨_, cap', w', hr, h2, h3, ?_, fun h => h5 (by omega)⟩
      rcases h4 with h4 | h4
      · exact .inl h4.symm
      · exact .inr (by rw [h4]; rfl)

section
variable {P : Program} {w : World}
theorem wp_append_any {o : Oper} {a : Act} {K : Act → World → Prop} {Q : Exit → Act → World → Prop} (s x : Operand) (t : TypeId)
    (ho : o.op = .call { callee := .builtin .append, args := #[s, x], argTypes := #[t, t] })
    (e : TypeId) (i : TypeInfo) (z : Value) (size bytes : Nat) (ht : P.underlying t = some (.slice e)) (hi : P.info? e = some i) (hz : i.zero = some z)
    (hsize : i.size = size) (hby : i.bytes = bytes) (hzs : z.cells.size = size) (hsz : 0 < size)
    (v : Value) (n cap : Nat) (xs : List Value) (hs : a.eval s = v) (hrow : Row w e size v n cap xs)
    (xv : Value) (m : Nat) (news : List Value) (hx : a.eval x = xv) (hsrc : Src w size xv m news) (h1 : ∀ u ∈ news, u.oneCell' = true)
    (N : Nat) (hN : n + m = N) (ys : List Value) (hys : xs ++ news = ys) (h63 : N ≤ maxLen) (hbytes : N * bytes ≤ 140737488355328)
    (h : ∀ ao cap' w', Row w' e size (.slice ao N cap') N cap' ys → w.grownBy w' v.ownBlock → ((Value.slice ao N cap').ownBlock = v.ownBlock ∨ (Value.slice ao N cap').ownBlock = some w.heap.size) → (cap = n → w.grownBy w' none) → K (a.put o.dst (.slice ao N cap')) w') : o.wp P a w K Q := by
  subst hN
  subst hys
  obtain ⟨ao, cap', w', hr, h2, h3, h4, h5⟩ := run_append_any (P := P) w t o.type e i z size bytes ht hi hz hsize hby hzs hsz v n cap xs hrow xv m news hsrc h1 h63 hbytes
  unfold Oper.wp execOp
  simp only [ho, resolve, invoke, builtin, Sem.run_bind, Sem.run_pure, Result.andThen_ok, List.map_toArray, List.map_cons, List.map_nil, hs, hx, hr]
  exact h ao cap' w' h2 h3 h4 h5
theorem wpList_append_any {ops : Array Oper} {rest : List Oper} {o : Oper} {a : Act} {Q : Exit → Act → World → Prop} (hgd : o.guard = none) (s x : Operand) (t : TypeId)
    (ho : o.op = .call { callee := .builtin .append, args := #[s, x], argTypes := #[t, t] })
    (e : TypeId) (i : TypeInfo) (z : Value) (size bytes : Nat) (ht : P.underlying t = some (.slice e)) (hi : P.info? e = some i) (hz : i.zero = some z)
    (hsize : i.size = size) (hby : i.bytes = bytes) (hzs : z.cells.size = size) (hsz : 0 < size)
    (v : Value) (n cap : Nat) (xs : List Value) (hs : a.eval s = v) (hrow : Row w e size v n cap xs)
    (xv : Value) (m : Nat) (news : List Value) (hx : a.eval x = xv) (hsrc : Src w size xv m news) (h1 : ∀ u ∈ news, u.oneCell' = true)
    (N : Nat) (hN : n + m = N) (ys : List Value) (hys : xs ++ news = ys) (h63 : N ≤ maxLen) (hbytes : N * bytes ≤ 140737488355328)
    (h : ∀ ao cap' w', Row w' e size (.slice ao N cap') N cap' ys → w.grownBy w' v.ownBlock → ((Value.slice ao N cap').ownBlock = v.ownBlock ∨ (Value.slice ao N cap').ownBlock = some w.heap.size) → (cap = n → w.grownBy w' none) → wpList P ops Q rest (a.put o.dst (.slice ao N cap')) w') : wpList P ops Q (o :: rest) a w :=
  wpList_plain hgd fun _ hK => wp_append_any s x t ho e i z size bytes ht hi hz hsize hby hzs hsz v n cap xs hs hrow xv m news hx hsrc h1 N hN ys hys h63 hbytes fun ao cap' w' h2 h3 h4 h5 => hK _ _ (h ao cap' w' h2 h3 h4 h5)
theorem step_append_any {ops : Array Oper} {o : Oper} {a : Act} {K : Act → World → Prop} {Q : Exit → Act → World → Prop} {E : Prop} (hgd : o.guard = none) (s x : Operand) (t : TypeId)
    (ho : o.op = .call { callee := .builtin .append, args := #[s, x], argTypes := #[t, t] })
    (e : TypeId) (i : TypeInfo) (z : Value) (size bytes : Nat) (ht : P.underlying t = some (.slice e)) (hi : P.info? e = some i) (hz : i.zero = some z)
    (hsize : i.size = size) (hby : i.bytes = bytes) (hzs : z.cells.size = size) (hsz : 0 < size)
    (v : Value) (n cap : Nat) (xs : List Value) (hs : a.eval s = v) (hrow : Row w e size v n cap xs)
    (xv : Value) (m : Nat) (news : List Value) (hx : a.eval x = xv) (hsrc : Src w size xv m news) (h1 : ∀ u ∈ news, u.oneCell' = true)
    (N : Nat) (hN : n + m = N) (ys : List Value) (hys : xs ++ news = ys) (h63 : N ≤ maxLen) (hbytes : N * bytes ≤ 140737488355328)
    (h : ∀ ao cap' w', Row w' e size (.slice ao N cap') N cap' ys → w.grownBy w' v.ownBlock → ((Value.slice ao N cap').ownBlock = v.ownBlock ∨ (Value.slice ao N cap').ownBlock = some w.heap.size) → (cap = n → w.grownBy w' none) → K (a.put o.dst (.slice ao N cap')) w') :
    if Region.wanted o (yielded ops a.tmps) = true then Oper.wp P o a w K Q else E := by
  have hw : Region.wanted o (yielded ops a.tmps) = true := by simp [Region.wanted, hgd]
  rw [if_pos hw]
  exact wp_append_any s x t ho e i z size bytes ht hi hz hsize hby hzs hsz v n cap xs hs hrow xv m news hx hsrc h1 N hN ys hys h63 hbytes h
end

/-- a small row that was just laid: k elements, no more room -/
theorem Row.laid (w : World) (e : TypeId) (size n : Nat) (cs : Array Value) (hs : cs.size = n * size) (hn : n ≤ maxLen) (B : Nat) (hB : w.heap.size = B) : Row (w.alloc (.cells cs e)) e size (.slice (some ⟨B, 0, none⟩) n n) n n cs.toList := by
  subst hB
  exact ⟨by simpa using hs, .inr ⟨w.heap.size, cs, rfl, heap_alloc_new w _, Nat.le_refl _, hn, by omega, by rw [← hs]; exact List.take_of_length_le (by simp)⟩⟩
theorem Src.kept {S : Nat → Prop} {w w' : World} {size : Nat} {ao : Option Addr} {m m' c : Nat} {news : List Value} (h : Src w size (.slice ao m' c) m news) (hk : Kept S w w') (hs : ∀ a, ao = some a → ¬ S a.block) : Src w' size (.slice ao m' c) m news := by
  obtain ⟨hl, ao', c', he, hnone, hc⟩ := h
  cases he
  exact ⟨hl, ao, c, rfl, hnone, fun a ha j u hu => hk.cell (hc a ha j u hu) (by have h' := hs a ha; unfold Addr.add; split <;> exact h')⟩
end Go.Proofs.Ytlnhdfdalfoocaa
