/- Walks: hold.New, the ring's last; what a hold is in memory. -/
import Derived.Test.YtlnhdfdalfoocaaProg
import Derived.Test.YtlnhdfdalfoocaaHeap3
import Derived.WalkSpells
import Derived.WalkLawsBesides
import Derived.StillTailTactics
namespace Go.Proofs.Ytlnhdfdalfoocaa
open Go.RowKit

/-- an entry: its key, its bytes, and the slice value that holds them -/
structure En where
  key : ByteArray
  data : List UInt8
  ao : Option Addr
  cap : Nat
def En.val (e : En) : Value := .slice e.ao e.data.length e.cap
def En.cells (e : En) : List Value := [.string e.key, .slice e.ao e.data.length e.cap]
def En.arr (e : En) : Array Value := #[.string e.key, .slice e.ao e.data.length e.cap]
def ecells (l : List En) : List Value := l.flatMap En.cells
def bcells (l : List UInt8) : List Value := l.map fun b => .int .u8 (b.toNat : Int)
theorem bcells_length (l : List UInt8) : (bcells l).length = l.length * 1 := by simp [bcells]
theorem ecells_append (l m : List En) : ecells (l ++ m) = ecells l ++ ecells m := by simp [ecells]
theorem ecells_one (a : En) : ecells [a] = a.cells := by simp [ecells]
theorem ecells_length (l : List En) : (ecells l).length = l.length * 2 := by
  induction l with
  | nil => rfl
  | cons a l ih => simp only [ecells, List.flatMap_cons, List.length_append, List.length_cons] at ih ⊢; rw [ih]; simp [En.cells]; omega

/-- a slice of entries -/
def Ents (w : World) (v : Value) (l : List En) (cap : Nat) : Prop := Row w 57 2 v l.length cap (ecells l)
/-- the entry's bytes lie where its slice says -/
def Held (w : World) (e : En) : Prop := Row w 5 1 e.val e.data.length e.cap (bcells e.data)
/-- the hold at block bh: its list and its quota; g: the block of the list -/
def HAt (w : World) (bh : Nat) (quota : Int) (l : List En) (g : Option Nat) : Prop :=
  ∃ v cap, w.heap[bh]? = some (.cells #[v, .int .i64 quota] 51 (0, 0)) ∧ Ents w v l cap ∧ v.ownBlock = g ∧ ∀ e ∈ l, Held w e
/-- the blocks of a hold -/
def HB (bh : Nat) (g : Option Nat) (l : List En) : Nat → Prop := fun k => k = bh ∨ g = some k ∨ ∃ e ∈ l, e.val.ownBlock = some k
/-- those of them that are ever written -/
def HW (bh : Nat) (g : Option Nat) : Nat → Prop := fun k => k = bh ∨ g = some k
def NewG (w : World) (g g' : Option Nat) : Prop := g' = g ∨ ∃ k, g' = some k ∧ w.heap.size ≤ k

/-- max(0, min(n, 32768)) -/
def clamp (n : Int) : Int := if n < 0 then 0 else if 32768 < n then 32768 else n
theorem clamp_le (n : Int) : 0 ≤ clamp n ∧ clamp n ≤ 32768 := by unfold clamp; (repeat' split) <;> omega

set_option maxHeartbeats 400000 in
theorem new_any (n : Int) (w : World) :
    Calls Try.prog 8 #[.int .i64 n] w fun e w' => e = .returned (.pointer (some ⟨w.heap.size, 0, none⟩)) ∧ w.alloc (.cells #[.slice none 0 0, .int .i64 (clamp n)] 51) = w' := by
  by_cases h0 : n < 0
  · have e : clamp n = 0 := by unfold clamp; rw [if_pos h0]
    rw [e]; clear e
    go_enter Try.func8, Try.ntmps8
    go_wp2
    go_ret
    exact ⟨rfl, rfl⟩
  · by_cases h1 : 32768 < n
    · have e : clamp n = 32768 := by unfold clamp; rw [if_neg h0, if_pos h1]
      rw [e]; clear e
      go_enter Try.func8, Try.ntmps8
      go_wp2
      go_ret
      exact ⟨rfl, rfl⟩
    · have e : clamp n = n := by unfold clamp; rw [if_neg h0, if_neg h1]
      rw [e]; clear e
      by_cases h2 : n = 0
      · subst h2
        go_enter Try.func8, Try.ntmps8
        go_wp2
        go_ret
        exact ⟨rfl, rfl⟩
      · have h3 : 0 < n := by omega
        go_enter Try.func8, Try.ntmps8
        go_wp2
        go_ret
        exact ⟨rfl, rfl⟩
theorem info57 : (Try.prog.info? 57).map (fun i => (i.zero, i.size, i.bytes)) = some (some (.agg #[.string ByteArray.empty, .slice none 0 0]), 2, 40) := by kernel_rfl
theorem info5 : (Try.prog.info? 5).map (fun i => (i.zero, i.size, i.bytes)) = some (some (.int .u8 0), 1, 1) := by kernel_rfl
theorem info9 : (Try.prog.info? 9).map (fun i => (i.zero, i.size, i.bytes)) = some (some (.string ByteArray.empty), 1, 16) := by kernel_rfl

theorem block_cells2 {w : World} {b : Nat} {x y : Value} {t : TypeId} (h : w.heap[b]? = some (.cells #[x, y] t (0, 0))) :
    b < w.heap.size ∧ w.cell? ⟨b, 0, none⟩ = some x ∧ w.cell? ⟨b, 1, none⟩ = some y ∧ w.frozen? ⟨b, 0, none⟩ = false ∧ w.frozen? ⟨b, 1, none⟩ = false :=
  ⟨lt_of_heap h, by rw [cell_of_row w b 0 _ t _ h]; rfl, by rw [cell_of_row w b 1 _ t _ h]; rfl, frozen_of_row w b 0 _ t h, frozen_of_row w b 1 _ t h⟩
theorem news_alloc (w1 : World) (cs : Array Value) (t : TypeId) (B : Nat) (hB : w1.heap.size = B) : ∀ j u, cs.toList[j]? = some u → (w1.alloc (.cells cs t)).cell? ((⟨B, 0, none⟩ : Addr).add j) = some u := by
  intro j u hu
  subst hB
  rw [addr_add, Nat.zero_add, cell_of_row _ _ j cs t (0, 0) (heap_alloc_new w1 _)]
  simpa using hu
theorem cells_one (a : En) : ∀ u ∈ a.cells, u.oneCell' = true := by
  intro u hu; simp [En.cells] at hu; rcases hu with rfl | rfl <;> rfl
theorem cells_all (l : List En) : ∀ u ∈ ecells l, u.oneCell' = true := by
  intro u hu
  simp only [ecells, List.mem_flatMap] at hu
  obtain ⟨a, _, hu⟩ := hu
  exact cells_one a u hu
theorem bytes_one (l : List UInt8) : ∀ u ∈ bcells l, u.oneCell' = true := by
  intro u hu; simp only [bcells, List.mem_map] at hu; obtain ⟨b, _, rfl⟩ := hu; rfl
theorem after_grown {w W w1 : World} {row : Option Nat} {b : Nat} {o : Obj} (hk : Kept NoB w W) (hg : W.grownBy w1 row) (hb : w.heap[b]? = some o) (hne : row ≠ some b) : w1.heap[b]? = some o :=
  (hg.block b (lt_of_heap (hk.heap hb (fun h => h))) (fun e => hne e.symm)).trans (hk.heap hb (fun h => h))
theorem not_own {w : World} {b : Nat} {cs : Array Value} {t : TypeId} {v : Value} {n cap : Nat} {xs : List Value} {e : TypeId} {size : Nat} (hb : w.heap[b]? = some (.cells cs t (0, 0))) (ht : t ≠ e) (hr : Row w e size v n cap xs) : v.ownBlock ≠ some b := by
  rcases hr.2 with ⟨rfl, _⟩ | ⟨g, cur, rfl, hg, _⟩
  · simp [Value.ownBlock]
  · intro h
    simp [Value.ownBlock] at h
    subst h
    rw [hb] at hg
    simp at hg
    exact ht hg.2
/-- rows of unlike types lie in unlike blocks -/
theorem rows_apart {w : World} {v v' : Value} {n cap n' cap' : Nat} {xs xs' : List Value} {e e' : TypeId} {size size' : Nat} (ht : e ≠ e') (hr : Row w e size v n cap xs) (hr' : Row w e' size' v' n' cap' xs') : ∀ k, v.ownBlock = some k → v'.ownBlock ≠ some k := by
  intro k hk
  rcases hr.2 with ⟨rfl, _⟩ | ⟨g, cur, rfl, hg, _⟩
  · simp [Value.ownBlock] at hk
  · simp [Value.ownBlock] at hk
    subst hk
    exact not_own hg ht hr'

/-! the hold's blocks -/
theorem HAt.lt {w : World} {bh : Nat} {quota : Int} {l : List En} {g : Option Nat} (h : HAt w bh quota l g) : ∀ k, HB bh g l k → k < w.heap.size := by
  obtain ⟨v, cap, hb, hr, rfl, he⟩ := h
  rintro k (rfl | hk | ⟨e, hm, hk⟩)
  · exact lt_of_heap hb
  · exact hr.lt k hk
  · exact (he e hm).lt k hk
theorem HAt.apart {w : World} {bh : Nat} {quota : Int} {l : List En} {g : Option Nat} (h : HAt w bh quota l g) : g ≠ some bh ∧ ∀ e ∈ l, e.val.ownBlock ≠ some bh ∧ ∀ k, g = some k → e.val.ownBlock ≠ some k := by
  obtain ⟨v, cap, hb, hr, rfl, he⟩ := h
  exact ⟨not_own hb (by decide) hr, fun e hm => ⟨not_own hb (by decide) (he e hm), fun k hk => rows_apart (by decide) hr (he e hm) k hk⟩⟩
theorem Held.kept {S : Nat → Prop} {w w' : World} {e : En} (h : Held w e) (hk : Kept S w w') (h1 : ∀ k, e.val.ownBlock = some k → ¬ S k) : Held w' e := Row.kept h hk h1
theorem HAt.kept {S : Nat → Prop} {w w' : World} {bh : Nat} {quota : Int} {l : List En} {g : Option Nat} (h : HAt w bh quota l g) (hk : Kept S w w') (h1 : ∀ k, HB bh g l k → ¬ S k) : HAt w' bh quota l g := by
  obtain ⟨v, cap, hb, hr, rfl, he⟩ := h
  exact ⟨v, cap, hk.heap hb (h1 _ (.inl rfl)), hr.kept hk (fun k hk' => h1 k (.inr (.inl hk'))), rfl, fun e hm => (he e hm).kept hk (fun k hk' => h1 k (.inr (.inr ⟨e, hm, hk'⟩)))⟩
theorem HAt.calm {w w' : World} {bh : Nat} {quota : Int} {l : List En} {g : Option Nat} (h : HAt w bh quota l g) (hk : Kept NoB w w') : HAt w' bh quota l g := h.kept hk (fun _ _ h => h)

/-- behind an append onto the hold's list, and the store of the new slice into the hold -/
theorem hold_after {w W w1 : World} {bh : Nat} {quota : Int} {l : List En} {x : En} {ao : Option Addr} {n n' cap g cap' : Nat} (hn : n' = (l ++ [x]).length) (hk : Kept NoB w W) (h : HAt w bh quota l (Value.slice ao n cap).ownBlock) (hb : w.heap[bh]? = some (.cells #[.slice ao n cap, .int .i64 quota] 51 (0, 0)))
    (hx : Held w x) (hrow : Row w1 57 2 (.slice (some ⟨g, 0, none⟩) n' cap') n' cap' (ecells (l ++ [x]))) (hgrow : W.grownBy w1 (Value.slice ao n cap).ownBlock) (hat : (Value.slice ao n cap).ownBlock = some g ∨ g = W.heap.size)
    (hxg : ∀ k, (Value.slice ao n cap).ownBlock = some k → x.val.ownBlock ≠ some k) :
    HAt (w1.setCell ⟨bh, 0, none⟩ (.slice (some ⟨g, 0, none⟩) n' cap')) bh quota (l ++ [x]) (some g) ∧
    Kept (HW bh (Value.slice ao n cap).ownBlock) w (w1.setCell ⟨bh, 0, none⟩ (.slice (some ⟨g, 0, none⟩) n' cap')) ∧ NewG w (Value.slice ao n cap).ownBlock (some g) := by
  have hap := h.apart
  have hb1 := (hgrow.block bh (lt_of_heap (hk.heap hb (fun h => h))) (fun e => hap.1 e.symm)).trans (hk.heap hb (fun h => h))
  have hbl := lt_of_heap hb
  have hg : g ≠ bh := by
    rcases hat with h | h
    · intro e; exact hap.1 (e ▸ h)
    · have := hk.size; omega
  have hK : Kept (fun k => (Value.slice ao n cap).ownBlock = some k) w w1 := (hk.mono (fun _ _ h => h.elim)).grown hgrow (fun k e _ => e)
  have hS : Kept (fun k => k = bh) w1 (w1.setCell ⟨bh, 0, none⟩ (.slice (some ⟨g, 0, none⟩) n' cap')) := Kept.setCell (S := fun k => k = bh) (Kept.refl _ _) (fun _ => rfl) _
  subst hn
  refine ⟨⟨.slice (some ⟨g, 0, none⟩) (l ++ [x]).length cap', cap', ?_, ?_, rfl, ?_⟩, ?_, ?_⟩
  · exact heap_setCell_same w1 bh 0 _ 51 _ hb1
  · exact hrow.kept hS (fun k hk' e => by simp [Value.ownBlock] at hk'; omega)
  · intro e hm
    have hh : Held w e ∧ (∀ k, (Value.slice ao n cap).ownBlock = some k → e.val.ownBlock ≠ some k) ∧ e.val.ownBlock ≠ some bh := by
      rcases List.mem_append.1 hm with hm | hm
      · obtain ⟨_, _, _, _, _, he⟩ := h
        exact ⟨he e hm, (hap.2 e hm).2, (hap.2 e hm).1⟩
      · simp only [List.mem_singleton] at hm; subst hm; exact ⟨hx, hxg, not_own hb (by decide) hx⟩
    exact (hh.1.kept hK (fun k h1 h2 => hh.2.1 k h2 h1)).kept hS (fun k h1 e => hh.2.2 (e ▸ h1))
  · exact (hK.mono (fun _ _ h => .inr h)).setCell (fun _ => .inl rfl) _
  · rcases hat with h | h
    · exact .inl h.symm
    · exact .inr ⟨g, rfl, by have := hk.size; omega⟩

set_option maxHeartbeats 1000000 in
theorem last_any (bh : Nat) (quota : Int) (l : List En) (g : Option Nat) (x : En) (w : World) (h : HAt w bh quota l g) (hx : Held w x) (hlen : l.length ≤ 4096) :
    Calls Try.prog 24 #[.pointer (some ⟨bh, 0, none⟩), .agg x.arr] w fun e w' => e = .returned (.tuple #[]) ∧ ∃ g', HAt w' bh quota (l ++ [x]) g' ∧ Kept (HW bh g) w w' ∧ NewG w g g' := by
  have h' := h
  obtain ⟨v, cap, hb, hr, hg, he⟩ := h'
  obtain ⟨ao, rfl⟩ := hr.form
  obtain ⟨hlt, c0, c1, f0, f1⟩ := block_cells2 hb
  obtain ⟨i0, hi, hz0, hz1, hz2⟩ := info_parts info57
  have hne := h.apart.1
  rw [← hg] at hne
  subst hg
  have hxg : ∀ k, (Value.slice ao l.length cap).ownBlock = some k → x.val.ownBlock ≠ some k := fun k hk => rows_apart (by decide) hr hx k hk
  have HXG := Lib.hid hxg
  have H := Lib.hid h
  have HX := Lib.hid hx
  have HR := Lib.hid hr
  clear he h hx hr hxg
  unfold En.arr
  go_enter Try.func24, Try.ntmps24
  go_wp2
  go_region_law ((refine step_append_row rfl (.tmp 8) (.tmp 10) 47 rfl 57 i0 _ 2 40 Try.underlying47 hi hz0 hz1 hz2 rfl (by decide) (.slice ao l.length cap) l.length cap (ecells l) rfl (by exact HR.out.kept (S := NoB) (by repeat (first | with_reducible exact Kept.refl _ _ | with_reducible refine Kept.alloc ?_ _ | with_reducible refine Kept.drewN ?_ _ | with_reducible refine Kept.drew ?_)) (fun _ _ h => h)) _ 1 1 x.cells rfl rfl (by exact news_alloc _ x.arr 57 _ (by simp)) (cells_one x) (by decide) (by unfold maxLen; omega) (by omega) ?_; intro g cap' w1 hrow' hgrow hat; have hb1 := after_grown (by repeat (first | with_reducible exact Kept.refl _ _ | with_reducible refine Kept.alloc ?_ _ | with_reducible refine Kept.drewN ?_ _ | with_reducible refine Kept.drew ?_)) hgrow hb hne; obtain ⟨hlt1, d0, d1, e0, e1⟩ := block_cells2 hb1))
  all_goals
    go_wp2
    go_end0
    exact ⟨rfl, some _, hold_after (by simp) (by repeat (first | with_reducible exact Kept.refl _ _ | with_reducible refine Kept.alloc ?_ _ | with_reducible refine Kept.drewN ?_ _ | with_reducible refine Kept.drew ?_)) H.out hb HX.out (by rw [ecells_append, ecells_one]; exact hrow') hgrow hat HXG.out⟩
end Go.Proofs.Ytlnhdfdalfoocaa
