/- Walks: slices.Delete at one element, IndexFunc, the ring's at and out. -/
import Derived.Test.YtlnhdfdalfoocaaH1
namespace Go.Proofs.Ytlnhdfdalfoocaa
open Go.RowKit

theorem ecells_take (l : List En) (k : Nat) : (ecells l).take (k * 2) = ecells (l.take k) := by
  induction l generalizing k with
  | nil => simp [ecells]
  | cons a l ih =>
    cases k with
    | zero => simp [ecells]
    | succ k =>
      have h2 : a.cells.length = 2 := rfl
      have e : (k + 1) * 2 = 2 + k * 2 := by omega
      simp only [ecells, List.flatMap_cons, List.take_succ_cons] at ih ⊢
      rw [e, ← h2, List.take_length_add_append, h2, ih]
theorem ecells_drop (l : List En) (k : Nat) : (ecells l).drop (k * 2) = ecells (l.drop k) := by
  induction l generalizing k with
  | nil => simp [ecells]
  | cons a l ih =>
    cases k with
    | zero => simp [ecells]
    | succ k =>
      have h2 : a.cells.length = 2 := rfl
      have e : (k + 1) * 2 = 2 + k * 2 := by omega
      simp only [ecells, List.flatMap_cons, List.drop_succ_cons] at ih ⊢
      rw [e, ← h2, List.drop_length_add_append, h2, ih]
theorem ecells_erase (l : List En) (i : Nat) : (ecells l).take (i * 2) ++ (ecells l).drop ((i + 1) * 2) = ecells (l.eraseIdx i) := by
  rw [ecells_take, ecells_drop, ← ecells_append, List.eraseIdx_eq_take_drop_succ]

set_option maxHeartbeats 1000000 in
theorem delete_last (g n cap i : Nat) (l : List En) (w : World) (hr : Row w 57 2 (.slice (some ⟨g, 0, none⟩) n cap) n cap (ecells l)) (hi : i < n) (hnc : n ≤ cap) (hcm : cap ≤ maxLen) (hc : i + 1 = cap) :
    Calls Try.prog 34 #[.slice (some ⟨g, 0, none⟩) n cap, .int .i64 i, .int .i64 ((i : Int) + 1)] w fun e w' =>
      e = .returned (.slice (some ⟨g, 0, none⟩) (n - 1) cap) ∧ Row w' 57 2 (.slice (some ⟨g, 0, none⟩) (n - 1) cap) (n - 1) cap (ecells (l.eraseIdx i)) ∧ Kept (fun k => k = g) w w' := by
  obtain ⟨i0, hi0, hz0, hz1, hz2⟩ := info_parts info57
  have hrd : Row w.drew 57 2 (.slice (some ⟨g, 0, none⟩) n cap) n cap (ecells l) := hr.kept (S := NoB) ((Kept.refl _ _).drew) (fun _ _ h => h)
  unfold maxLen at hcm
  have hne : ((i : Int) == (i : Int) + 1) = false := by simp; omega
  have H1 := Lib.hid (ecells_erase l i)
  have hlt : i < n ∧ n - 1 < cap := by omega
  have q1 : i ≤ cap := by omega
  have q2 : i + 1 ≤ n := by omega
  have q3 : i + 1 ≤ cap := by omega
  have q4 : cap = i + 1 := by omega
  have q5 : (0 : Int) ≤ (i : Int) + 1 := by omega
  have q6 : (i : Int) + 1 ≤ (n : Int) := by omega
  have hn : n = i + 1 := by omega
  subst hn
  subst q4
  have q7 : (i : Int) ≤ (i : Int) + 1 := by omega
  have hd : (ecells l).drop ((i + 1) * 2) = [] := List.eq_nil_of_length_eq_zero (by rw [List.length_drop, hr.1]; omega)
  rw [Nat.add_sub_cancel]
  clear hc
  go_enter Try.func34, Try.ntmps34
  go_wp2
  go_region_law ((refine step_append_in rfl (.tmp 22) (.tmp 25) 47 rfl 57 i0 2 Try.underlying47 hi0 hz1 g i (i + 1) ((ecells l).take (i * 2)) (by simp [Act.eval, Act.put]) (hrd.take i (by omega)) (.slice (some ⟨g, 0, none⟩) 0 0) 0 [] (by simp [Act.eval, Act.put]) ⟨rfl, _, _, rfl, (fun h => by cases h), (fun _ _ j u hu => by simp at hu)⟩ (fun u hu => by simp at hu) (by omega) i (by omega) (ecells (l.eraseIdx i)) (by rw [← H1.out, hd]) ?_; intro w1 hrow1 hk1))
  go_wp2_with (with_reducible show wpList _ _ _ ({ dst := _, op := Op.call { callee := Callee.builtin Builtin.clear, args := _, argTypes := _ }, type := _, pos := _, after := _, guard := _ } :: _) _ _; refine wpList_clear_row rfl (.tmp 31) 47 rfl 57 i0 _ 2 Try.underlying47 hi0 hz0 rfl (by decide) g i _ _ i (i + 1) _ rfl hrow1 (by omega) (by omega) ?_; intro w2 hrow2 hk2)
  go_ret
  exact ⟨rfl, hrow2, ((Kept.refl _ _).drew.trans hk1 (fun _ _ h => h)).trans hk2 (fun _ _ h => h)⟩
set_option maxHeartbeats 1000000 in
theorem delete_mid (g n cap i : Nat) (l : List En) (w : World) (hr : Row w 57 2 (.slice (some ⟨g, 0, none⟩) n cap) n cap (ecells l)) (hi : i < n) (hnc : n ≤ cap) (hcm : cap ≤ maxLen) (hc : ¬ i + 1 = cap) :
    Calls Try.prog 34 #[.slice (some ⟨g, 0, none⟩) n cap, .int .i64 i, .int .i64 ((i : Int) + 1)] w fun e w' =>
      e = .returned (.slice (some ⟨g, 0, none⟩) (n - 1) cap) ∧ Row w' 57 2 (.slice (some ⟨g, 0, none⟩) (n - 1) cap) (n - 1) cap (ecells (l.eraseIdx i)) ∧ Kept (fun k => k = g) w w' := by
  obtain ⟨i0, hi0, hz0, hz1, hz2⟩ := info_parts info57
  have hrd : Row w.drew 57 2 (.slice (some ⟨g, 0, none⟩) n cap) n cap (ecells l) := hr.kept (S := NoB) ((Kept.refl _ _).drew) (fun _ _ h => h)
  unfold maxLen at hcm
  have hne : ((i : Int) == (i : Int) + 1) = false := by simp; omega
  have H1 := Lib.hid (ecells_erase l i)
  have hlt : i < n ∧ n - 1 < cap := by omega
  have hc' : i + 1 < cap := by omega
  have q1 : i ≤ cap := by omega
  have q2 : i + 1 ≤ n := by omega
  have q3 : i + 1 ≤ cap := by omega
  have q4 : ¬ cap = i + 1 := by omega
  have q5 : (0 : Int) ≤ (i : Int) + 1 := by omega
  have q6 : (i : Int) + 1 ≤ (n : Int) := by omega
  go_enter Try.func34, Try.ntmps34
  go_wp2
  go_region_law ((refine step_append_in rfl (.tmp 22) (.tmp 25) 47 rfl 57 i0 2 Try.underlying47 hi0 hz1 g i cap ((ecells l).take (i * 2)) (by simp [Act.eval, Act.put]) (hrd.take i (by omega)) (.slice (some ⟨g, (i + 1) * 2, none⟩) (n - (i + 1)) (cap - (i + 1))) (n - (i + 1)) ((ecells l).drop ((i + 1) * 2)) (by simp [Act.eval, Act.put]) (hrd.srcFrom (i + 1) _) (fun u hu => cells_all l u (List.mem_of_mem_drop hu)) (by omega) (n - 1) (by omega) (ecells (l.eraseIdx i)) H1.out ?_; intro w1 hrow1 hk1))
  go_wp2_with (with_reducible show wpList _ _ _ ({ dst := _, op := Op.call { callee := Callee.builtin Builtin.clear, args := _, argTypes := _ }, type := _, pos := _, after := _, guard := _ } :: _) _ _; refine wpList_clear_row rfl (.tmp 31) 47 rfl 57 i0 _ 2 Try.underlying47 hi0 hz0 rfl (by decide) g (n - 1) _ _ (n - 1) cap _ rfl hrow1 (by omega) (by omega) ?_; intro w2 hrow2 hk2)
  go_ret
  exact ⟨rfl, hrow2, ((Kept.refl _ _).drew.trans hk1 (fun _ _ h => h)).trans hk2 (fun _ _ h => h)⟩
theorem delete_any (g n cap i : Nat) (l : List En) (w : World) (hr : Row w 57 2 (.slice (some ⟨g, 0, none⟩) n cap) n cap (ecells l)) (hi : i < n) (hnc : n ≤ cap) (hcm : cap ≤ maxLen) :
    Calls Try.prog 34 #[.slice (some ⟨g, 0, none⟩) n cap, .int .i64 i, .int .i64 ((i : Int) + 1)] w fun e w' =>
      e = .returned (.slice (some ⟨g, 0, none⟩) (n - 1) cap) ∧ Row w' 57 2 (.slice (some ⟨g, 0, none⟩) (n - 1) cap) (n - 1) cap (ecells (l.eraseIdx i)) ∧ Kept (fun k => k = g) w w' := by
  by_cases hc : i + 1 = cap
  · exact delete_last g n cap i l w hr hi hnc hcm hc
  · exact delete_mid g n cap i l w hr hi hnc hcm hc

theorem ents_get (w : World) (g n cap i : Nat) (l : List En) (hr : Row w 57 2 (.slice (some ⟨g, 0, none⟩) n cap) n cap (ecells l)) (hi : i < l.length) :
    w.cell? ⟨g, i * 2, none⟩ = some (.string l[i].key) ∧ w.cell? ⟨g, i * 2 + 1, none⟩ = some (.slice l[i].ao l[i].data.length l[i].cap) := by
  have key : ∀ j u, l[i].cells[j]? = some u → w.cell? ⟨g, i * 2 + j, none⟩ = some u := by
    intro j u hu
    obtain ⟨_, ao, c, he, _, hc⟩ := hr.srcFrom i cap
    cases he
    have h := hc _ rfl j u (by
      rw [ecells_drop, List.drop_eq_getElem_cons hi]
      have hj : j < l[i].cells.length := (List.getElem?_eq_some_iff.1 hu).1
      show (l[i].cells ++ ecells (l.drop (i + 1)))[j]? = some u
      rw [List.getElem?_append_left hj, hu])
    rwa [addr_add] at h
  exact ⟨key 0 _ rfl, key 1 _ rfl⟩
theorem block_frozen2 {w : World} {b : Nat} {cs : Array Value} {t : TypeId} (h : w.heap[b]? = some (.cells cs t (0, 0))) : w.frozen? ⟨b, 0, none⟩ = false ∧ w.frozen? ⟨b, 1, none⟩ = false :=
  ⟨frozen_of_row w b 0 _ t h, frozen_of_row w b 1 _ t h⟩
theorem Kept.two {S : Nat → Prop} {a b : World} (h : Kept S a b) (B : Nat) (hB : B < a.heap.size → S B) (u0 u1 : Value) : Kept S a ((b.setCell ⟨B, 0, none⟩ u0).setCell ⟨B, 1, none⟩ u1) :=
  (h.setCell (p := ⟨B, 0, none⟩) hB u0).setCell (p := ⟨B, 1, none⟩) hB u1

/-! strings as Go compares them -/
theorem toList_inj {a b : ByteArray} (h : a.toList = b.toList) : a = b := by
  rw [ByteArray.toList_eq, ByteArray.toList_eq] at h
  cases a; cases b
  simp only [Array.toList_inj] at h
  rw [h]
theorem str_eq (a b : ByteArray) : (a.toList == b.toList) = true ↔ a = b := by
  rw [beq_iff_eq]; exact ⟨toList_inj, fun h => by rw [h]⟩
theorem str_ne (a b : ByteArray) : (a.toList == b.toList) = false ↔ a ≠ b := by
  rw [beq_eq_false_iff_ne]; exact ⟨fun h e => h (by rw [e]), fun h e => h (toList_inj e)⟩

/-! the key's place -/
set_option maxHeartbeats 400000 in
theorem atf_any (x : En) (key : ByteArray) (Bk : Nat) (w : World) (hj : w.cell? ⟨Bk, 0, none⟩ = some (.string key)) :
    Calls Try.prog 33 #[.agg x.arr, .pointer (some ⟨Bk, 0, none⟩)] w fun e w' => e = .returned (.bool (x.key.toList == key.toList)) ∧ Kept NoB w w' := by
  have hlt := block_lt_of_cell hj
  simp only at hlt
  unfold En.arr
  go_enter Try.func33, Try.ntmps33
  go_wp2
  go_ret
  exact ⟨rfl, (by repeat (first | with_reducible exact Kept.refl _ _ | with_reducible refine Kept.alloc ?_ _ | with_reducible refine Kept.drewN ?_ _ | with_reducible refine Kept.drew ?_))⟩

/-- what IndexFunc tells -/
def Found (l : List En) (key : ByteArray) (w : World) (e : Ending) (w' : World) : Prop :=
  Kept NoB w w' ∧ ((∃ (k : Nat) (h : k < l.length), e = .returned (.int .i64 k) ∧ l[k].key = key ∧ ∀ a ∈ l.take k, a.key ≠ key) ∨ (e = .returned (.int .i64 (-1)) ∧ ∀ a ∈ l, a.key ≠ key))

set_option maxHeartbeats 1000000 in
theorem index_any (v : Value) (cap : Nat) (l : List En) (key : ByteArray) (Bk : Nat) (w : World) (hr : Ents w v l cap) (hlen : l.length ≤ 4096) (hj : w.cell? ⟨Bk, 0, none⟩ = some (.string key)) :
    Calls Try.prog 32 #[v, .func (.func 33) #[] #[.pointer (some ⟨Bk, 0, none⟩)]] w (Found l key w) := by
  obtain ⟨ao, rfl⟩ := hr.form
  go_enter Try.func32, Try.ntmps32
  go_wp2_with fail
  go_loopw [8] (fun i wr => ∃ k : Nat, k ≤ l.length ∧ i = .int .i64 k ∧ Kept NoB w wr ∧ ∀ a ∈ l.take k, a.key ≠ key) (fun i _ => l.length - (intOf i).toNat)
  case atStart => exact ⟨0, Nat.zero_le _, rfl, (by repeat (first | with_reducible exact Kept.refl _ _ | with_reducible refine Kept.alloc ?_ _ | with_reducible refine Kept.drewN ?_ _ | with_reducible refine Kept.drew ?_)), by simp⟩
  case round =>
    obtain ⟨k, hk, rfl, hkk, hno⟩ := hrel
    have HN := Lib.hid hno
    clear hno
    by_cases hlt : k < l.length
    · have r1 : Ents wr _ l cap := hr.kept hkk (fun _ _ h => h)
      rcases r1.2 with ⟨_, h, _⟩ | ⟨g1, cur1, hv1, _⟩
      · omega
      cases hv1
      obtain ⟨x0, x1⟩ := ents_get wr g1 _ cap k l r1 hlt
      have hjr := hkk.cell hj (fun h => h)
      have HT := Lib.hid (List.take_succ_eq_append_getElem hlt)
      obtain ⟨x, hx⟩ : ∃ x, l[k] = x := ⟨_, rfl⟩
      rw [hx] at x0 x1
      have HX : Hid (l[k] = x) := Lib.hid hx
      clear hx
      have HF := Lib.hid (atf_any x key Bk wr hjr)
      unfold En.arr at HF
      clear r1 hjr hj hr
      by_cases hxj : x.key = key
      · have hb : (x.key.toList == key.toList) = true := by simp [hxj]
        have HJ := Lib.hid hxj
        clear hxj
        go_wp2_with (go_at_call 33; refine HF.out.mono ?_; rintro e w' ⟨rfl, hw'⟩)
        go_ret
        exact ⟨hkk.then hw', .inl ⟨k, hlt, rfl, by rw [HX.out]; exact HJ.out, HN.out⟩⟩
      · have hb : (x.key.toList == key.toList) = false := (str_ne x.key key).2 hxj
        have HJ := Lib.hid hxj
        clear hxj
        go_wp2_with (go_at_call 33; refine HF.out.mono ?_; rintro e w' ⟨rfl, hw'⟩)
        go_roundw
        case rel =>
          refine ⟨k + 1, by omega, by go_num, hkk.then hw', ?_⟩
          rw [HT.out]
          intro a ha
          rcases List.mem_append.1 ha with h | h
          · exact HN.out a h
          · rw [HX.out] at h; simp at h; subst h; exact HJ.out
        case measure => simp [intOf]; omega
    · have hkl : k = l.length := by omega
      go_wp2_with fail
      go_ret
      exact ⟨hkk, .inr ⟨rfl, by have h := HN.out; rw [hkl, List.take_length] at h; exact h⟩⟩

set_option maxHeartbeats 400000 in
theorem at_any (bh : Nat) (quota : Int) (l : List En) (g : Option Nat) (key : ByteArray) (w : World) (h : HAt w bh quota l g) (hlen : l.length ≤ 4096) :
    Calls Try.prog 22 #[.pointer (some ⟨bh, 0, none⟩), .string key] w (Found l key w) := by
  obtain ⟨v, cap, hb, hr, hg, he⟩ := h
  obtain ⟨ao, rfl⟩ := hr.form
  obtain ⟨hlt, c0, c1, f0, f1⟩ := block_cells2 hb
  have HI := Lib.hid (index_any _ cap l key w.heap.size (w.alloc (.cells #[.string key] 9)) (hr.kept (S := NoB) ((Kept.refl _ _).alloc _) (fun _ _ h => h)) hlen (by rw [cell_of_row _ _ 0 _ 9 _ (heap_alloc_new w _)]; rfl))
  have HK := Lib.hid ((Kept.refl NoB w).alloc (.cells #[.string key] 9))
  clear hr he hb
  go_enter Try.func22, Try.ntmps22
  go_wp2_with fail
  refine HI.out.mono ?_
  rintro e w1 ⟨hk, hf⟩
  have HK2 := Lib.hid (HK.out.then hk)
  rcases hf with ⟨k, hk, rfl, h1, h2⟩ | ⟨rfl, h1⟩
  · have H1 := Lib.hid h1
    have H2 := Lib.hid h2
    clear h1 h2
    go_wp2_with fail
    go_ret
    exact ⟨HK2.out, .inl ⟨k, hk, rfl, H1.out, H2.out⟩⟩
  · have H1 := Lib.hid h1
    clear h1
    go_wp2_with fail
    go_ret
    exact ⟨HK2.out, .inr ⟨rfl, H1.out⟩⟩

/-! out -/
set_option maxHeartbeats 1000000 in
theorem out_any (bh : Nat) (quota : Int) (l : List En) (gq : Option Nat) (i : Nat) (w : World) (h : HAt w bh quota l gq) (hi : i < l.length) :
    Calls Try.prog 23 #[.pointer (some ⟨bh, 0, none⟩), .int .i64 i] w fun e w' => e = .returned (.agg l[i].arr) ∧ HAt w' bh quota (l.eraseIdx i) gq ∧ Kept (HW bh gq) w w' := by
  have hap := Lib.hid h.apart
  obtain ⟨v, cap, hb, hr, hg, he⟩ := h
  have hne := not_own hb (by decide) hr
  obtain ⟨hlt, c0, c1, f0, f1⟩ := block_cells2 hb
  rcases hr.2 with ⟨_, h0, _⟩ | ⟨g, cur, rfl, hgg, hnc, hcm, _⟩
  · omega
  obtain ⟨a0, a1⟩ := ents_get w g _ cap i l hr hi
  have hgw := lt_of_heap hgg
  have hgb : g ≠ bh := by intro e; exact hne (by simp [Value.ownBlock, e])
  have hi1 : (i : Int) < (l.length : Int) := by omega
  have hcm' := hcm
  unfold maxLen at hcm'
  have hv : Value.agg l[i].arr = .agg #[.string l[i].key, .slice l[i].ao l[i].data.length l[i].cap] := rfl
  rw [hv]
  clear hv
  have hlen : (l.eraseIdx i).length = l.length - 1 := by rw [List.length_eraseIdx, if_pos hi]
  have HLEN := Lib.hid hlen
  have HE := Lib.hid he
  clear hlen he
  generalize l[i] = x at a0 a1 ⊢
  go_enter Try.func23, Try.ntmps23
  go_wp2_with fail
  refine (delete_any g l.length cap i l _ (hr.kept (S := NoB) (by repeat (first | with_reducible exact Kept.refl _ _ | with_reducible refine Kept.alloc ?_ _ | with_reducible refine Kept.drewN ?_ _ | with_reducible refine Kept.drew ?_)) (fun _ _ h => h)) hi hnc hcm).mono ?_
  rintro e w2 ⟨rfl, hrow2, hk2⟩
  have hb2 := hk2.heap ((show Kept NoB w _ from (by repeat (first | with_reducible exact Kept.refl _ _ | with_reducible refine Kept.alloc ?_ _ | with_reducible refine Kept.drewN ?_ _ | with_reducible refine Kept.drew ?_))).heap hb (fun h => h)) (fun h => hgb h.symm)
  have hx2 := hk2.heap (heap_alloc_new (w.alloc (.cells #[.string ByteArray.empty, .slice none 0 0] 57)) (.cells x.arr 57)) (fun h => by simp at h; omega)
  have hy2 := hk2.heap (((Kept.refl NoB _).alloc (.cells x.arr 57)).heap (heap_alloc_new w (.cells #[.string ByteArray.empty, .slice none 0 0] 57)) (fun h => h)) (fun h => by omega)
  have hsz1 : (w.alloc (.cells #[.string ByteArray.empty, .slice none 0 0] 57)).heap.size = w.heap.size + 1 := by simp
  rw [hsz1] at hx2
  obtain ⟨hlt2, d0, d1, e0, e1⟩ := block_cells2 hb2
  obtain ⟨hlt3, b0, b1, k0, k1⟩ := block_cells2 hx2
  obtain ⟨hlt4, y0, y1, z0, z1⟩ := block_cells2 hy2
  have hsz := lt_of_heap hx2
  have hxg : w.heap.size ≠ g := by omega
  have hxb : w.heap.size ≠ bh := by omega
  have hxb1 : w.heap.size + 1 ≠ bh := by omega
  clear a0 a1 c0 c1 f0 f1
  go_wp2
  refine bodyPost_ret (v := .agg #[.string x.key, .slice x.ao x.data.length x.cap]) (by simp [results, Try.results23, go_sem, y0, y1]) rfl ⟨rfl, ?_, ?_⟩
  · refine HAt.kept (S := fun k => k = w.heap.size) (w := w2.setCell ⟨bh, 0, none⟩ (.slice (some ⟨g, 0, none⟩) (l.length - 1) cap)) ⟨_, cap, heap_setCell_same w2 bh 0 _ 51 _ hb2, ?_, ?_, ?_⟩ ?_ (fun k hk h => ?_)
    · unfold Ents
      rw [HLEN.out]
      exact hrow2.kept (S := fun k => k = bh) (Kept.setCell (S := fun k => k = bh) (p := ⟨bh, 0, none⟩) (Kept.refl _ _) (fun _ => rfl) _) (fun k hk e => by simp [Value.ownBlock] at hk; omega)
    · exact hg
    · intro e hm
      have hm' := List.mem_of_mem_eraseIdx hm
      have hp := hap.out.2 e hm'
      have hK1 : Kept (fun k => k = g ∨ k = bh) w (w2.setCell ⟨bh, 0, none⟩ (.slice (some ⟨g, 0, none⟩) (l.length - 1) cap)) := Kept.setCell (((show Kept NoB w _ from (by repeat (first | with_reducible exact Kept.refl _ _ | with_reducible refine Kept.alloc ?_ _ | with_reducible refine Kept.drewN ?_ _ | with_reducible refine Kept.drew ?_))).of_none.trans hk2 (fun _ _ h => .inl h))) (fun _ => .inr rfl) _
      refine (HE.out e hm').kept hK1 (fun k hk h => ?_)
      rcases h with rfl | rfl
      · exact hp.2 k (by rw [← hg]; rfl) hk
      · exact hp.1 hk
    · exact Kept.two (S := fun k => k = w.heap.size) (Kept.refl _ _) w.heap.size (fun _ => rfl) _ _
    · subst h
      rcases hk with h | h | ⟨e, hm, hk⟩
      · exact hxb h
      · rw [← hg] at h; simp [Value.ownBlock] at h; omega
      · have := (HE.out e (List.mem_of_mem_eraseIdx hm)).lt _ hk; omega
  · have hK : Kept (HW bh gq) w w2 := (show Kept NoB w _ from (by repeat (first | with_reducible exact Kept.refl _ _ | with_reducible refine Kept.alloc ?_ _ | with_reducible refine Kept.drewN ?_ _ | with_reducible refine Kept.drew ?_))).of_none.trans hk2 (fun k _ e => .inr (by rw [← hg, e]; rfl))
    exact Kept.two (hK.setCell (p := ⟨bh, 0, none⟩) (fun _ => .inl rfl) _) _ (fun h => absurd h (Nat.lt_irrefl _)) _ _
end Go.Proofs.Ytlnhdfdalfoocaa
