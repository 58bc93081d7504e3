/- Walks of the reference: goes. -/
import Derived.Test.YtlnhdfdalfoocaaR2
import Derived.Test.YtlnhdfdalfoocaaLane
namespace Go.Proofs.Ytlnhdfdalfoocaa
open Go.RowKit

/-- the three lists that goes makes -/
def Acc (w0 wr : World) (a4 a5 a6 : Option Addr) (n c4 c5 c6 : Nat) (L : List Rn) : Prop :=
  n = L.length ∧ Row wr 9 1 (.slice a4 n c4) n c4 (kcells (L.map Rn.key)) ∧ Row wr 9 1 (.slice a5 n c5) n c5 (kcells (L.map Rn.data)) ∧ Row wr 3 1 (.slice a6 n c6) n c6 (icells (L.map Rn.at')) ∧ Kept NoB w0 wr ∧
    (∀ k, (Value.slice a4 n c4).ownBlock = some k → (Value.slice a5 n c5).ownBlock ≠ some k) ∧
    ∀ k, ((Value.slice a4 n c4).ownBlock = some k ∨ (Value.slice a5 n c5).ownBlock = some k ∨ (Value.slice a6 n c6).ownBlock = some k) → w0.heap.size ≤ k
/-- one step of the reference: B: its blocks as it began -/
def RStep (w w' : World) (br : Nat) (quota : Int) (B : Nat → Prop) (l' : List Rn) (now' : Int) : Prop :=
  ∃ vk vd vw ck cd cw, RAt w' br quota now' l' vk vd vw ck cd cw ∧ Kept B w w' ∧ ∀ k, RB br vk vd vw k → B k ∨ w.heap.size ≤ k
theorem Acc.begin (w : World) : Acc w (((w.alloc (.cells #[] 9)).alloc (.cells #[] 9)).alloc (.cells #[] 3)) (some ⟨w.heap.size, 0, none⟩) (some ⟨w.heap.size + 1, 0, none⟩) (some ⟨w.heap.size + 1 + 1, 0, none⟩) 0 0 0 0 [] := by
  have r1 := Row.laid w 9 1 0 #[] rfl (by decide) _ rfl
  have r2 := Row.laid (w.alloc (.cells #[] 9)) 9 1 0 #[] rfl (by decide) (w.heap.size + 1) (by simp)
  have r3 := Row.laid ((w.alloc (.cells #[] 9)).alloc (.cells #[] 9)) 3 1 0 #[] rfl (by decide) (w.heap.size + 1 + 1) (by simp)
  refine ⟨rfl, Row.kept r1 (S := NoB) (((Kept.refl _ _).alloc _).alloc _) (fun _ _ h => h), Row.kept r2 (S := NoB) ((Kept.refl _ _).alloc _) (fun _ _ h => h), r3, (((Kept.refl _ _).alloc _).alloc _).alloc _, fun k h1 h2 => ?_, fun k hk => ?_⟩
  · simp [Value.ownBlock] at h1 h2; omega
  · simp [Value.ownBlock] at hk; omega
theorem skip_at (l : List Rn) (a : Nat) (h : a < l.length) : (l.take (a + 1)).eraseIdx a = (l.take a).eraseIdx a := by
  have e : (l.take a).length = a := by rw [List.length_take]; omega
  have e2 : (l.take a).eraseIdx a = l.take a := List.eraseIdx_of_length_le (by omega)
  rw [List.take_succ_eq_append_getElem h, List.eraseIdx_append_of_length_le (by omega), e, Nat.sub_self, e2]
  simp
theorem keep_at (l : List Rn) (a k : Nat) (h : k < l.length) (hne : ¬ k = a) : (l.take (k + 1)).eraseIdx a = (l.take k).eraseIdx a ++ [l[k]] := by
  have e : (l.take k).length = k := by rw [List.length_take]; omega
  rw [List.take_succ_eq_append_getElem h]
  by_cases hlt : a < k
  · rw [List.eraseIdx_append_of_lt_length (by omega)]
  · rw [List.eraseIdx_append_of_length_le (by omega), List.eraseIdx_of_length_le (by simp; omega), List.eraseIdx_of_length_le (by omega)]
theorem Acc.calm {w0 wr w' : World} {a4 a5 a6 : Option Addr} {n c4 c5 c6 : Nat} {L : List Rn} (h : Acc w0 wr a4 a5 a6 n c4 c5 c6 L) (hk : Kept NoB wr w') : Acc w0 w' a4 a5 a6 n c4 c5 c6 L := by
  obtain ⟨h0, h1, h2, h3, h4, h5, h6⟩ := h
  exact ⟨h0, Row.kept h1 hk (fun _ _ h => h), Row.kept h2 hk (fun _ _ h => h), Row.kept h3 hk (fun _ _ h => h), h4.then hk, h5, h6⟩
/-- the three lists are stored -/
theorem Acc.stored {w0 wr : World} {br : Nat} {quota now : Int} {l L : List Rn} {vk vd vw : Value} {ck cd cw : Nat} {a4 a5 a6 : Option Addr} {n c4 c5 c6 : Nat} (H : RAt w0 br quota now l vk vd vw ck cd cw) (h : Acc w0 wr a4 a5 a6 n c4 c5 c6 L) :
    RStep w0 (((wr.setCell ⟨br, 0, none⟩ (.slice a4 n c4)).setCell ⟨br, 1, none⟩ (.slice a5 n c5)).setCell ⟨br, 2, none⟩ (.slice a6 n c6)) br quota (RB br vk vd vw) L now := by
  obtain ⟨h0, h1, h2, h3, h4, h5, h6⟩ := h
  subst h0
  have hb := h4.heap H.1 (fun h => h)
  have hlt := lt_of_heap H.1
  have k1 : Kept (fun k => k = br) wr (((wr.setCell ⟨br, 0, none⟩ (.slice a4 L.length c4)).setCell ⟨br, 1, none⟩ (.slice a5 L.length c5)).setCell ⟨br, 2, none⟩ (.slice a6 L.length c6)) :=
    (((Kept.refl (fun k => k = br) wr).setCell (p := ⟨br, 0, none⟩) (fun _ => rfl) _).setCell (p := ⟨br, 1, none⟩) (fun _ => rfl) _).setCell (p := ⟨br, 2, none⟩) (fun _ => rfl) _
  refine ⟨_, _, _, c4, c5, c6, ⟨?_, h1.kept k1 (fun k hk e => ?_), h2.kept k1 (fun k hk e => ?_), h3.kept k1 (fun k hk e => ?_), h5⟩, (h4.of_none.trans k1 (fun i _ e => .inl e)), fun k hk => ?_⟩
  · have e1 := heap_setCell_same wr br 0 _ 54 (.slice a4 L.length c4) hb
    have e2 := heap_setCell_same _ br 1 _ 54 (.slice a5 L.length c5) e1
    have e3 := heap_setCell_same _ br 2 _ 54 (.slice a6 L.length c6) e2
    exact e3
  · have := h6 k (.inl hk); omega
  · have := h6 k (.inr (.inl hk)); omega
  · have := h6 k (.inr (.inr hk)); omega
  · rcases hk with h | h | h | h
    · exact .inl (.inl h)
    · exact .inr (h6 k (.inl h))
    · exact .inr (h6 k (.inr (.inl h)))
    · exact .inr (h6 k (.inr (.inr h)))
theorem info3 : (Try.prog.info? 3).map (fun i => (i.zero, i.size, i.bytes)) = some (some (.int .i64 0), 1, 8) := by kernel_rfl
/-- the three lanes, with all that the walk needs not look at -/
def Three (p1 p2 p3 : Pg) (w0 w : World) (a4 a5 a6 : Option Addr) (n c4 c5 c6 : Nat) (L : List Rn) (x : Rn) (v31 v32 v41 v42 v51 v52 : Value) : Prop :=
  ∃ G1 G2 G3, Lanes p1 p2 p3 w0 w 9 9 3 (.slice a4 n c4) (.slice a5 n c5) (.slice a6 n c6) n c4 c5 c6 (kcells (L.map Rn.key)) (kcells (L.map Rn.data)) (icells (L.map Rn.at')) (.string x.key) (.string x.data) (.int .i64 x.at') v31 v32 v41 v42 v51 v52 G1 G2 G3
theorem Acc.three {w0 wr : World} {a4 a5 a6 : Option Addr} {n c4 c5 c6 : Nat} {L : List Rn} (h : Acc w0 wr a4 a5 a6 n c4 c5 c6 L) (x : Rn) (v31 v32 v41 v42 v51 v52 : Value) : Three .z .z .z wr wr.drew a4 a5 a6 n c4 c5 c6 L x v31 v32 v41 v42 v51 v52 := by
  obtain ⟨_, h1, h2, h3, h4, h5, _⟩ := h
  have hk : Kept NoB wr wr.drew := (Kept.refl _ _).drew
  have g1 := Row.kept h1 hk (fun _ _ h => h)
  have g2 := Row.kept h2 hk (fun _ _ h => h)
  have g3 := Row.kept h3 hk (fun _ _ h => h)
  exact ⟨fun k => (Value.slice a4 n c4).ownBlock = some k, fun k => (Value.slice a5 n c5).ownBlock = some k, fun k => (Value.slice a6 n c6).ownBlock = some k,
    ⟨g1.lt, g1, fun _ h => h⟩, ⟨g2.lt, g2, fun _ h => h⟩, ⟨g3.lt, g3, fun _ h => h⟩, h5, rows_apart (by decide) h1 h3, rows_apart (by decide) h2 h3, hk.of_none, fun k hk => .inl hk⟩
theorem Three.acc {w0 w1 w : World} {a4 a5 a6 : Option Addr} {n c4 c5 c6 : Nat} {L : List Rn} {x : Rn} {v31 v32 v41 v42 v51 v52 : Value} (h : Three .d .d .d w1 w a4 a5 a6 n c4 c5 c6 L x v31 v32 v41 v42 v51 v52) (hA : Acc w0 w1 a4 a5 a6 n c4 c5 c6 L) :
    ∃ b4 b5 b6 d4 d5 d6, v32 = .slice b4 (n + 1) d4 ∧ v42 = .slice b5 (n + 1) d5 ∧ v52 = .slice b6 (n + 1) d6 ∧ Acc w0 w b4 b5 b6 (n + 1) d4 d5 d6 (L ++ [x]) := by
  obtain ⟨G1, G2, G3, h⟩ := h
  obtain ⟨_, b4, d4, rfl, r1, g1⟩ := h.l1
  obtain ⟨_, b5, d5, rfl, r2, g2⟩ := h.l2
  obtain ⟨_, b6, d6, rfl, r3, g3⟩ := h.l3
  obtain ⟨hn, _, _, _, hk, _, hge⟩ := hA
  have hs := hk.size
  refine ⟨b4, b5, b6, d4, d5, d6, rfl, rfl, rfl, by rw [List.length_append, ← hn]; rfl, ?_, ?_, ?_, hk.trans h.old (fun i hi e => ?_), fun k h1 h2 => h.d12 k (g1 k h1) (g2 k h2), fun k hk' => ?_⟩
  · rw [List.map_append]; unfold kcells at r1 ⊢; rw [List.map_append]; exact r1
  · rw [List.map_append]; unfold kcells at r2 ⊢; rw [List.map_append]; exact r2
  · rw [List.map_append]; unfold icells at r3 ⊢; rw [List.map_append]; exact r3
  · have := hge i e; omega
  · have h' := h.ge k (by rcases hk' with h | h | h; exact .inl (g1 k h); exact .inr (.inl (g2 k h)); exact .inr (.inr (g3 k h)))
    rcases h' with h' | h'
    · exact hge k h'
    · omega
theorem Three.old {p1 p2 p3 : Pg} {w0 w1 w : World} {a4 a5 a6 : Option Addr} {n c4 c5 c6 : Nat} {L : List Rn} {x : Rn} {v31 v32 v41 v42 v51 v52 : Value} (h : Three p1 p2 p3 w1 w a4 a5 a6 n c4 c5 c6 L x v31 v32 v41 v42 v51 v52) (hA : Acc w0 w1 a4 a5 a6 n c4 c5 c6 L) : Kept NoB w0 w := by
  obtain ⟨G1, G2, G3, h⟩ := h
  obtain ⟨hn, _, _, _, hk, _, hge⟩ := hA
  have hs := hk.size
  exact hk.trans h.old (fun i hi e => by have := hge i e; omega)

set_option maxRecDepth 100000 in
set_option maxHeartbeats 8000000 in
theorem goes_any {br : Nat} {quota now : Int} {l : List Rn} {vk vd vw : Value} {ck cd cw : Nat} (a : Nat) (w : World) (h : RAt w br quota now l vk vd vw ck cd cw) (hlen : l.length ≤ 4096) (ha : a < l.length) :
    Calls Try.prog 28 #[.pointer (some ⟨br, 0, none⟩), .int .i64 a] w fun e w' => e = .returned (.tuple #[]) ∧ RStep w w' br quota (RB br vk vd vw) (l.eraseIdx a) now := by
  obtain ⟨i9, hi9, hz90, hz91, hz92⟩ := info_parts info9
  obtain ⟨i3, hi3, hz30, hz31, hz32⟩ := info_parts info3
  have H := Lib.hid h
  obtain ⟨h1, h2, h3, h4, h5⟩ := h
  rcases h2.2 with ⟨_, h, _⟩ | ⟨gk, curk, rfl, _⟩
  · omega
  rcases h3.2 with ⟨_, h, _⟩ | ⟨gd, curd, rfl, _⟩
  · omega
  rcases h4.2 with ⟨_, h, _⟩ | ⟨gw, curw, rfl, _⟩
  · omega
  obtain ⟨hlt, ⟨c0, c1, c2, c3, c4⟩, f0, f1, f2, f3, f4⟩ := block_cells5 h1
  clear h1 h2 h3 h4 h5
  go_enter Try.func28, Try.ntmps28
  go_wp2_with fail
  go_loopw [4, 5, 6, 7] (fun s4 s5 s6 iv wr => ∃ (k n c4 c5 c6 : Nat) (a4 a5 a6 : Option Addr), k ≤ l.length ∧ iv = .int .i64 k ∧ s4 = .slice a4 n c4 ∧ s5 = .slice a5 n c5 ∧ s6 = .slice a6 n c6 ∧ n ≤ k ∧ Hid (Acc w wr a4 a5 a6 n c4 c5 c6 ((l.take k).eraseIdx a))) (fun _ _ _ iv _ => l.length - (intOf iv).toNat)
  case atStart => exact ⟨0, 0, 0, 0, 0, _, _, _, Nat.zero_le _, rfl, rfl, rfl, rfl, Nat.le_refl _, Lib.hid (Acc.begin w)⟩
  case round =>
    obtain ⟨k, n, c4', c5', c6', a4, a5, a6, hk, rfl, rfl, rfl, rfl, hnk, HA⟩ := hrel
    have HR := Lib.hid (H.out.calm HA.out.2.2.2.2.1)
    obtain ⟨r1, r2, r3, r4, _⟩ := HR.out
    obtain ⟨hltr, ⟨d0, d1, d2, d3, d4⟩, _⟩ := block_cells5 r1
    clear r1 c0 c1 c2 c3 c4 f0 f1 f2 f3 f4
    by_cases hkl : k < l.length
    · by_cases hka : k = a
      · have HE := Lib.hid (skip_at l a ha)
        subst hka
        have hneb : ((k : Int) != (k : Int)) = false := by simp
        clear r2 r3 r4
        go_wp2_with fail
        go_roundw
        case rel => exact ⟨k + 1, n, c4', c5', c6', a4, a5, a6, by omega, by go_num, rfl, rfl, rfl, by omega, Lib.hid (by rw [HE.out]; exact HA.out)⟩
        case measure => simp [intOf]; omega
      · have HKEEP := Lib.hid (keep_at l a k hkl hka)
        have HSS : Hid (∀ W, Kept NoB w W → W.cell? ⟨br, 0, none⟩ = some (.slice (some ⟨gk, 0, none⟩) l.length ck) ∧ W.cell? ⟨br, 1, none⟩ = some (.slice (some ⟨gd, 0, none⟩) l.length cd) ∧ W.cell? ⟨br, 2, none⟩ = some (.slice (some ⟨gw, 0, none⟩) l.length cw) ∧ W.cell? ⟨gk, k, none⟩ = some (.string l[k].key) ∧ W.cell? ⟨gd, k, none⟩ = some (.string l[k].data) ∧ W.cell? ⟨gw, k, none⟩ = some (.int .i64 l[k].at')) := Lib.hid (fun W hW => by
          obtain ⟨q1, q2, q3, q4, _⟩ := H.out.calm hW
          obtain ⟨_, ⟨e0, e1, e2, _, _⟩, _⟩ := block_cells5 q1
          have z0 := texts_get (k := k) q2 (by simpa using hkl)
          have z1 := texts_get (k := k) q3 (by simpa using hkl)
          have z2 := times_get (k := k) q4 (by simpa using hkl)
          rw [List.getElem_map] at z0 z1 z2
          exact ⟨e0, e1, e2, z0, z1, z2⟩)
        obtain ⟨x, hx⟩ : ∃ x, l[k] = x := ⟨_, rfl⟩
        rw [hx] at HSS
        obtain ⟨LL, hLL⟩ : ∃ LL, (l.take k).eraseIdx a = LL := ⟨_, rfl⟩
        rw [hLL] at HA
        have HX := Lib.hid hx
        have HLL := Lib.hid hLL
        have hti : (k : Int) < (l.length : Int) := by omega
        have ht0 : (0 : Int) ≤ (k : Int) := by omega
        have hne : ((k : Int) != (a : Int)) = true := by simp; omega
        clear r2 r3 r4 hx hLL
        go_wp2_with fail
        refine wp_region_held_drew (S := fun W => W.cell? ⟨br, 0, none⟩ = some (.slice (some ⟨gk, 0, none⟩) l.length ck) ∧ W.cell? ⟨br, 1, none⟩ = some (.slice (some ⟨gd, 0, none⟩) l.length cd) ∧ W.cell? ⟨br, 2, none⟩ = some (.slice (some ⟨gw, 0, none⟩) l.length cw) ∧ W.cell? ⟨gk, k, none⟩ = some (.string x.key) ∧ W.cell? ⟨gd, k, none⟩ = some (.string x.data) ∧ W.cell? ⟨gw, k, none⟩ = some (.int .i64 x.at')) (by kernel_rfl) (HSS.out _ (HA.out.2.2.2.2.1.drew)) (fun hHeld => ?_)
        refine wpAnyH_take (i := 0) (oi := _) (v := ?_) rfl (by kernel_rfl) (by kernel_rfl) (by kernel_rfl) (fun _ _ _ h => h) (Or.inl ⟨by rfl, (by intro w hSw; (try dsimp only at hSw); first | (go_simp; done) | (go_simp; with_reducible rfl))⟩) (by assumption) ?_
        try simp only [Act.put, List.getElem_toArray, List.getElem_cons_zero, List.setIfInBounds_toArray, List.set_cons_zero, List.set_cons_succ]
        refine wpAnyH_take (i := 1) (oi := _) (v := ?_) rfl (by kernel_rfl) (by kernel_rfl) (by kernel_rfl) (fun _ _ _ h => h) (Or.inl ⟨by rfl, (by intro w hSw; (try dsimp only at hSw); first | (go_simp; done) | (go_simp; with_reducible rfl))⟩) (by assumption) ?_
        try simp only [Act.put, List.getElem_toArray, List.getElem_cons_succ, List.getElem_cons_zero, List.setIfInBounds_toArray, List.set_cons_zero, List.set_cons_succ]
        refine wpAnyH_take (i := 2) (oi := _) (v := ?_) rfl (by kernel_rfl) (by kernel_rfl) (by kernel_rfl) (fun _ _ _ h => h) (Or.inl ⟨by rfl, (by intro w hSw; (try dsimp only at hSw); first | (go_simp; done) | (go_simp; with_reducible rfl))⟩) (by assumption) ?_
        try simp only [Act.put, List.getElem_toArray, List.getElem_cons_succ, List.getElem_cons_zero, List.setIfInBounds_toArray, List.set_cons_zero, List.set_cons_succ]
        refine wpAnyH_take (i := 3) (oi := _) (v := ?_) rfl (by kernel_rfl) (by kernel_rfl) (by kernel_rfl) (fun _ _ _ h => h) (Or.inl ⟨by rfl, (by intro w hSw; (try dsimp only at hSw); first | (go_simp; done) | (go_simp; with_reducible rfl))⟩) (by assumption) ?_
        try simp only [Act.put, List.getElem_toArray, List.getElem_cons_succ, List.getElem_cons_zero, List.setIfInBounds_toArray, List.set_cons_zero, List.set_cons_succ]
        refine wpAnyH_take (i := 4) (oi := _) (v := ?_) rfl (by kernel_rfl) (by kernel_rfl) (by kernel_rfl) (fun _ _ _ h => h) (Or.inl ⟨by rfl, (by intro w hSw; (try dsimp only at hSw); first | (go_simp; done) | (go_simp; with_reducible rfl))⟩) (by assumption) ?_
        try simp only [Act.put, List.getElem_toArray, List.getElem_cons_succ, List.getElem_cons_zero, List.setIfInBounds_toArray, List.set_cons_zero, List.set_cons_succ]
        refine wpAnyH_take (i := 5) (oi := _) (v := ?_) rfl (by kernel_rfl) (by kernel_rfl) (by kernel_rfl) (fun _ _ _ h => h) (Or.inl ⟨by rfl, (by intro w hSw; (try dsimp only at hSw); first | (go_simp; done) | (go_simp; with_reducible rfl))⟩) (by assumption) ?_
        try simp only [Act.put, List.getElem_toArray, List.getElem_cons_succ, List.getElem_cons_zero, List.setIfInBounds_toArray, List.set_cons_zero, List.set_cons_succ]
        refine wpAnyH_take (i := 6) (oi := _) (v := ?_) rfl (by kernel_rfl) (by kernel_rfl) (by kernel_rfl) (fun _ _ _ h => h) (Or.inl ⟨by rfl, (by intro w hSw; (try dsimp only at hSw); first | (go_simp; done) | (go_simp; with_reducible rfl))⟩) (by assumption) ?_
        try simp only [Act.put, List.getElem_toArray, List.getElem_cons_succ, List.getElem_cons_zero, List.setIfInBounds_toArray, List.set_cons_zero, List.set_cons_succ]
        refine wpAnyH_take (i := 7) (oi := _) (v := ?_) rfl (by kernel_rfl) (by kernel_rfl) (by kernel_rfl) (fun _ _ _ h => h) (Or.inl ⟨by rfl, (by intro w hSw; (try dsimp only at hSw); first | (go_simp; done) | (go_simp; with_reducible rfl))⟩) (by assumption) ?_
        try simp only [Act.put, List.getElem_toArray, List.getElem_cons_succ, List.getElem_cons_zero, List.setIfInBounds_toArray, List.set_cons_zero, List.set_cons_succ]
        refine wpAnyH_take (i := 10) (oi := _) (v := ?_) rfl (by kernel_rfl) (by kernel_rfl) (by kernel_rfl) (fun _ _ _ h => h) (Or.inl ⟨by rfl, (by intro w hSw; (try dsimp only at hSw); first | (go_simp; done) | (go_simp; with_reducible rfl))⟩) (by assumption) ?_
        try simp only [Act.put, List.getElem_toArray, List.getElem_cons_succ, List.getElem_cons_zero, List.setIfInBounds_toArray, List.set_cons_zero, List.set_cons_succ]
        refine wpAnyH_take (i := 11) (oi := _) (v := ?_) rfl (by kernel_rfl) (by kernel_rfl) (by kernel_rfl) (fun _ _ _ h => h) (Or.inl ⟨by rfl, (by intro w hSw; (try dsimp only at hSw); first | (go_simp; done) | (go_simp; with_reducible rfl))⟩) (by assumption) ?_
        try simp only [Act.put, List.getElem_toArray, List.getElem_cons_succ, List.getElem_cons_zero, List.setIfInBounds_toArray, List.set_cons_zero, List.set_cons_succ]
        refine wpAnyH_take (i := 12) (oi := _) (v := ?_) rfl (by kernel_rfl) (by kernel_rfl) (by kernel_rfl) (fun _ _ _ h => h) (Or.inl ⟨by rfl, (by intro w hSw; (try dsimp only at hSw); first | (go_simp; done) | (go_simp; with_reducible rfl))⟩) (by assumption) ?_
        try simp only [Act.put, List.getElem_toArray, List.getElem_cons_succ, List.getElem_cons_zero, List.setIfInBounds_toArray, List.set_cons_zero, List.set_cons_succ]
        refine wpAnyH_take (i := 13) (oi := _) (v := ?_) rfl (by kernel_rfl) (by kernel_rfl) (by kernel_rfl) (fun _ _ _ h => h) (Or.inl ⟨by rfl, (by intro w hSw; (try dsimp only at hSw); first | (go_simp; done) | (go_simp; with_reducible rfl))⟩) (by assumption) ?_
        try simp only [Act.put, List.getElem_toArray, List.getElem_cons_succ, List.getElem_cons_zero, List.setIfInBounds_toArray, List.set_cons_zero, List.set_cons_succ]
        refine wpAnyH_take (i := 14) (oi := _) (v := ?_) rfl (by kernel_rfl) (by kernel_rfl) (by kernel_rfl) (fun _ _ _ h => h) (Or.inl ⟨by rfl, (by intro w hSw; (try dsimp only at hSw); first | (go_simp; done) | (go_simp; with_reducible rfl))⟩) (by assumption) ?_
        try simp only [Act.put, List.getElem_toArray, List.getElem_cons_succ, List.getElem_cons_zero, List.setIfInBounds_toArray, List.set_cons_zero, List.set_cons_succ]
        refine wpAnyH_take (i := 15) (oi := _) (v := ?_) rfl (by kernel_rfl) (by kernel_rfl) (by kernel_rfl) (fun _ _ _ h => h) (Or.inl ⟨by rfl, (by intro w hSw; (try dsimp only at hSw); first | (go_simp; done) | (go_simp; with_reducible rfl))⟩) (by assumption) ?_
        try simp only [Act.put, List.getElem_toArray, List.getElem_cons_succ, List.getElem_cons_zero, List.setIfInBounds_toArray, List.set_cons_zero, List.set_cons_succ]
        refine wpAnyH_take (i := 16) (oi := _) (v := ?_) rfl (by kernel_rfl) (by kernel_rfl) (by kernel_rfl) (fun _ _ _ h => h) (Or.inl ⟨by rfl, (by intro w hSw; (try dsimp only at hSw); first | (go_simp; done) | (go_simp; with_reducible rfl))⟩) (by assumption) ?_
        try simp only [Act.put, List.getElem_toArray, List.getElem_cons_succ, List.getElem_cons_zero, List.setIfInBounds_toArray, List.set_cons_zero, List.set_cons_succ]
        refine wpAnyH_take (i := 17) (oi := _) (v := ?_) rfl (by kernel_rfl) (by kernel_rfl) (by kernel_rfl) (fun _ _ _ h => h) (Or.inl ⟨by rfl, (by intro w hSw; (try dsimp only at hSw); first | (go_simp; done) | (go_simp; with_reducible rfl))⟩) (by assumption) ?_
        try simp only [Act.put, List.getElem_toArray, List.getElem_cons_succ, List.getElem_cons_zero, List.setIfInBounds_toArray, List.set_cons_zero, List.set_cons_succ]
        refine wpAnyH_take (i := 20) (oi := _) (v := ?_) rfl (by kernel_rfl) (by kernel_rfl) (by kernel_rfl) (fun _ _ _ h => h) (Or.inl ⟨by rfl, (by intro w hSw; (try dsimp only at hSw); first | (go_simp; done) | (go_simp; with_reducible rfl))⟩) (by assumption) ?_
        try simp only [Act.put, List.getElem_toArray, List.getElem_cons_succ, List.getElem_cons_zero, List.setIfInBounds_toArray, List.set_cons_zero, List.set_cons_succ]
        refine wpAnyH_take (i := 21) (oi := _) (v := ?_) rfl (by kernel_rfl) (by kernel_rfl) (by kernel_rfl) (fun _ _ _ h => h) (Or.inl ⟨by rfl, (by intro w hSw; (try dsimp only at hSw); first | (go_simp; done) | (go_simp; with_reducible rfl))⟩) (by assumption) ?_
        try simp only [Act.put, List.getElem_toArray, List.getElem_cons_succ, List.getElem_cons_zero, List.setIfInBounds_toArray, List.set_cons_zero, List.set_cons_succ]
        refine wpAnyH_take (i := 22) (oi := _) (v := ?_) rfl (by kernel_rfl) (by kernel_rfl) (by kernel_rfl) (fun _ _ _ h => h) (Or.inl ⟨by rfl, (by intro w hSw; (try dsimp only at hSw); first | (go_simp; done) | (go_simp; with_reducible rfl))⟩) (by assumption) ?_
        try simp only [Act.put, List.getElem_toArray, List.getElem_cons_succ, List.getElem_cons_zero, List.setIfInBounds_toArray, List.set_cons_zero, List.set_cons_succ]
        refine wpAnyH_take (i := 23) (oi := _) (v := ?_) rfl (by kernel_rfl) (by kernel_rfl) (by kernel_rfl) (fun _ _ _ h => h) (Or.inl ⟨by rfl, (by intro w hSw; (try dsimp only at hSw); first | (go_simp; done) | (go_simp; with_reducible rfl))⟩) (by assumption) ?_
        try simp only [Act.put, List.getElem_toArray, List.getElem_cons_succ, List.getElem_cons_zero, List.setIfInBounds_toArray, List.set_cons_zero, List.set_cons_succ]
        refine wpAnyH_take (i := 24) (oi := _) (v := ?_) rfl (by kernel_rfl) (by kernel_rfl) (by kernel_rfl) (fun _ _ _ h => h) (Or.inl ⟨by rfl, (by intro w hSw; (try dsimp only at hSw); first | (go_simp; done) | (go_simp; with_reducible rfl))⟩) (by assumption) ?_
        try simp only [Act.put, List.getElem_toArray, List.getElem_cons_succ, List.getElem_cons_zero, List.setIfInBounds_toArray, List.set_cons_zero, List.set_cons_succ]
        refine wpAnyH_take (i := 25) (oi := _) (v := ?_) rfl (by kernel_rfl) (by kernel_rfl) (by kernel_rfl) (fun _ _ _ h => h) (Or.inl ⟨by rfl, (by intro w hSw; (try dsimp only at hSw); first | (go_simp; done) | (go_simp; with_reducible rfl))⟩) (by assumption) ?_
        try simp only [Act.put, List.getElem_toArray, List.getElem_cons_succ, List.getElem_cons_zero, List.setIfInBounds_toArray, List.set_cons_zero, List.set_cons_succ]
        refine wpAnyH_take (i := 26) (oi := _) (v := ?_) rfl (by kernel_rfl) (by kernel_rfl) (by kernel_rfl) (fun _ _ _ h => h) (Or.inl ⟨by rfl, (by intro w hSw; (try dsimp only at hSw); first | (go_simp; done) | (go_simp; with_reducible rfl))⟩) (by assumption) ?_
        try simp only [Act.put, List.getElem_toArray, List.getElem_cons_succ, List.getElem_cons_zero, List.setIfInBounds_toArray, List.set_cons_zero, List.set_cons_succ]
        refine wpAnyH_take (i := 27) (oi := _) (v := ?_) rfl (by kernel_rfl) (by kernel_rfl) (by kernel_rfl) (fun _ _ _ h => h) (Or.inl ⟨by rfl, (by intro w hSw; (try dsimp only at hSw); first | (go_simp; done) | (go_simp; with_reducible rfl))⟩) (by assumption) ?_
        try simp only [Act.put, List.getElem_toArray, List.getElem_cons_succ, List.getElem_cons_zero, List.setIfInBounds_toArray, List.set_cons_zero, List.set_cons_succ]
        refine to_lanes (lanes_walk 3 8 9 18 19 28 29 (fun p1 p2 p3 => #[true, true, true, true, true, true, true, true, p1.m, p1.a, true, true, true, true, true, true, true, true, p2.m, p2.a, true, true, true, true, true, true, true, true, p3.m, p3.a, false, false, false]) (fun v31 v32 v41 v42 v51 v52 => { tmps := #[.pointer (some ⟨br, 0, none⟩), .int .i64 a, undef, undef, .slice a4 n c4', .slice a5 n c5', .slice a6 n c6', .int .i64 k, .slice (some ⟨w.heap.size, 0, none⟩) 0 0, .slice (some ⟨w.heap.size + 1, 0, none⟩) 0 0, .slice (some ⟨w.heap.size + 1 + 1, 0, none⟩) 0 0, .int .i64 k, .pointer (some ⟨br, 0, none⟩), .pointer (some ⟨br, 0, none⟩), .pointer (some ⟨br, 0, none⟩), .slice (some ⟨gk, 0, none⟩) l.length ck, .int .i64 l.length, .bool true, u18, u19, .int .i64 k, .int .i64 a, .bool true, .slice a4 n c4', .pointer (some ⟨br, 0, none⟩), .pointer (some ⟨br, 0, none⟩), .pointer (some ⟨br, 0, none⟩), .slice (some ⟨gk, 0, none⟩) l.length ck, .int .i64 k, .pointer (some ⟨gk, k, none⟩), .string x.key, v31, v32, .slice a5 n c5', .pointer (some ⟨br, 0, none⟩), .pointer (some ⟨br, 0, none⟩), .pointer (some ⟨br, 1, none⟩), .slice (some ⟨gd, 0, none⟩) l.length cd, .int .i64 k, .pointer (some ⟨gd, k, none⟩), .string x.data, v41, v42, .slice a6 n c6', .pointer (some ⟨br, 0, none⟩), .pointer (some ⟨br, 0, none⟩), .pointer (some ⟨br, 2, none⟩), .slice (some ⟨gw, 0, none⟩) l.length cw, .int .i64 k, .pointer (some ⟨gw, k, none⟩), .int .i64 x.at', v51, v52, undef, undef, undef, undef, undef, undef, undef, undef, undef, undef, undef, undef], defers := [] }) (fun p1 p2 p3 v31 v32 v41 v42 v51 v52 W => Three p1 p2 p3 wr W a4 a5 a6 n c4' c5' c6' LL x v31 v32 v41 v42 v51 v52)
          (fun p1 p2 p3 h0 h2 h3 => by revert h0 h2 h3; cases p1 <;> cases p2 <;> cases p3 <;> first | (intro h0 h2 h3; simp [Pg.left] at h0 h2 h3; done) | (intro _ _ _; kernel_rfl))
          (fun p2 p3 => by cases p2 <;> cases p3 <;> rfl) (fun p2 p3 => by cases p2 <;> cases p3 <;> rfl) (fun p1 p3 => by cases p1 <;> cases p3 <;> rfl) (fun p1 p3 => by cases p1 <;> cases p3 <;> rfl) (fun p1 p2 => by cases p1 <;> cases p2 <;> rfl) (fun p1 p2 => by cases p1 <;> cases p2 <;> rfl)
          (fun p1 p2 p3 _ _ _ _ _ _ W hst => HSS.out W (hst.old HA.out))
          (fun _ _ _ _ _ _ _ _ _ hst => by
          intro K hG
          obtain ⟨G1, G2, G3, hL⟩ := hst
          obtain ⟨G, hM⟩ := hL.made
          have HM := Lib.hid hM
          clear hM hL
          refine wpOp_step (o := _) rfl (fun K' hK => ?_)
          go_simp
          exact hK _ _ (hG _ _ ⟨_, _, _, HM.out⟩))
          (fun _ _ _ _ _ _ _ _ _ hst => by
          intro K hG
          obtain ⟨G1, G2, G3, hL⟩ := hst
          have hl := hL.l1
          obtain ⟨_, hrow, _, B, hv, hB, _⟩ := hl
          subst hv
          have HL := Lib.hid hL
          clear hL
          refine wpOp_step (o := _) rfl (fun K' hK => ?_)
          refine step_append_any rfl (.tmp 23) (.tmp 31) 39 rfl 9 i9 _ 1 16 Try.underlying39 hi9 hz90 hz91 hz92 rfl (by decide) (.slice a4 n c4') n c4' (kcells (LL.map Rn.key)) rfl hrow (.slice (some ⟨B, 0, none⟩) 1 1) 1 [.string x.key] rfl (src_of_block hB) (by intro u hu; simp only [List.mem_singleton] at hu; subst hu; rfl) (n + 1) rfl _ rfl (by unfold maxLen; omega) (by omega) ?_
          intro ao cap' w' hrow' hgrow hat _
          obtain ⟨G, hM⟩ := HL.out.done rfl rfl hrow' hgrow hat
          exact hK _ _ (hG _ _ ⟨_, _, _, hM⟩))
          (fun _ _ _ _ _ _ _ _ _ hst => by
          intro K hG
          obtain ⟨G1, G2, G3, hL⟩ := hst
          obtain ⟨G, hM⟩ := hL.turn.made
          have HM := Lib.hid hM.turn.turn
          clear hM hL
          refine wpOp_step (o := _) rfl (fun K' hK => ?_)
          go_simp
          exact hK _ _ (hG _ _ ⟨_, _, _, HM.out⟩))
          (fun _ _ _ _ _ _ _ _ _ hst => by
          intro K hG
          obtain ⟨G1, G2, G3, hL⟩ := hst
          have hl := hL.turn.l1
          obtain ⟨_, hrow, _, B, hv, hB, _⟩ := hl
          subst hv
          have HL := Lib.hid hL
          clear hL
          refine wpOp_step (o := _) rfl (fun K' hK => ?_)
          refine step_append_any rfl (.tmp 33) (.tmp 41) 39 rfl 9 i9 _ 1 16 Try.underlying39 hi9 hz90 hz91 hz92 rfl (by decide) (.slice a5 n c5') n c5' (kcells (LL.map Rn.data)) rfl hrow (.slice (some ⟨B, 0, none⟩) 1 1) 1 [.string x.data] rfl (src_of_block hB) (by intro u hu; simp only [List.mem_singleton] at hu; subst hu; rfl) (n + 1) rfl _ rfl (by unfold maxLen; omega) (by omega) ?_
          intro ao cap' w' hrow' hgrow hat _
          obtain ⟨G, hM⟩ := HL.out.turn.done rfl rfl hrow' hgrow hat
          exact hK _ _ (hG _ _ ⟨_, _, _, hM.turn.turn⟩))
          (fun _ _ _ _ _ _ _ _ _ hst => by
          intro K hG
          obtain ⟨G1, G2, G3, hL⟩ := hst
          obtain ⟨G, hM⟩ := hL.turn.turn.made
          have HM := Lib.hid hM.turn
          clear hM hL
          refine wpOp_step (o := _) rfl (fun K' hK => ?_)
          go_simp
          exact hK _ _ (hG _ _ ⟨_, _, _, HM.out⟩))
          (fun _ _ _ _ _ _ _ _ _ hst => by
          intro K hG
          obtain ⟨G1, G2, G3, hL⟩ := hst
          have hl := hL.turn.turn.l1
          obtain ⟨_, hrow, _, B, hv, hB, _⟩ := hl
          subst hv
          have HL := Lib.hid hL
          clear hL
          refine wpOp_step (o := _) rfl (fun K' hK => ?_)
          refine step_append_any rfl (.tmp 43) (.tmp 51) 52 rfl 3 i3 _ 1 8 Try.underlying52 hi3 hz30 hz31 hz32 rfl (by decide) (.slice a6 n c6') n c6' (icells (LL.map Rn.at')) rfl hrow (.slice (some ⟨B, 0, none⟩) 1 1) 1 [.int .i64 x.at'] rfl (src_of_block hB) (by intro u hu; simp only [List.mem_singleton] at hu; subst hu; rfl) (n + 1) rfl _ rfl (by unfold maxLen; omega) (by omega) ?_
          intro ao cap' w' hrow' hgrow hat _
          obtain ⟨G, hM⟩ := HL.out.turn.turn.done rfl rfl hrow' hgrow hat
          exact hK _ _ (hG _ _ ⟨_, _, _, hM.turn⟩))
          ?hend u31 u32 u41 u42 u51 u52 wr.drew (HA.out.three x _ _ _ _ _ _)) (by kernel_rfl) (by kernel_rfl) rfl
        rintro v31 v32 v41 v42 v51 v52 W hst hSW
        obtain ⟨b4, b5, b6, d4', d5', d6', rfl, rfl, rfl, hacc⟩ := hst.acc HA.out
        have HACC := Lib.hid hacc
        clear hst hacc
        dsimp only
        refine wpAnyH_take (i := 30) (oi := _) (v := ?_) rfl (by kernel_rfl) (by kernel_rfl) (by kernel_rfl) (fun _ _ _ h => h) (Or.inl ⟨by rfl, (by intro w hSw; (try dsimp only at hSw); first | (go_simp; done) | (go_simp; with_reducible rfl))⟩) (by assumption) ?_
        try simp only [Act.put, List.getElem_toArray, List.getElem_cons_succ, List.getElem_cons_zero, List.setIfInBounds_toArray, List.set_cons_zero, List.set_cons_succ]
        refine wpAnyH_take (i := 31) (oi := _) (v := ?_) rfl (by kernel_rfl) (by kernel_rfl) (by kernel_rfl) (fun _ _ _ h => h) (Or.inl ⟨by rfl, (by intro w hSw; (try dsimp only at hSw); first | (go_simp; done) | (go_simp; with_reducible rfl))⟩) (by assumption) ?_
        try simp only [Act.put, List.getElem_toArray, List.getElem_cons_succ, List.getElem_cons_zero, List.setIfInBounds_toArray, List.set_cons_zero, List.set_cons_succ]
        refine wpAnyH_take (i := 32) (oi := _) (v := ?_) rfl (by kernel_rfl) (by kernel_rfl) (by kernel_rfl) (fun _ _ _ h => h) (Or.inl ⟨by rfl, (by intro w hSw; (try dsimp only at hSw); first | (go_simp; done) | (go_simp; with_reducible rfl))⟩) (by assumption) ?_
        try simp only [Act.put, List.getElem_toArray, List.getElem_cons_succ, List.getElem_cons_zero, List.setIfInBounds_toArray, List.set_cons_zero, List.set_cons_succ]
        refine wpAnyH_done (by kernel_rfl) ?_ _
        go_wp2_with fail
        go_roundw
        case rel => exact ⟨k + 1, n + 1, d4', d5', d6', b4, b5, b6, by omega, by go_num, rfl, rfl, rfl, by omega, Lib.hid (by rw [HKEEP.out, HX.out, HLL.out]; exact HACC.out)⟩
        case measure => simp [intOf]; omega
    · have hke : k = l.length := by omega
      subst hke
      have HACC := Lib.hid HA.out
      rw [List.take_length] at HACC
      have hb := HA.out.2.2.2.2.1.heap H.out.1 (fun h => h)
      obtain ⟨hltb, ⟨e0, e1, e2, e3, e4⟩, g0, g1, g2, g3, g4⟩ := block_cells5 hb
      clear r2 r3 r4 hb
      go_wp2_with fail
      go_end0
      exact ⟨rfl, HACC.out.stored H.out⟩
end Go.Proofs.Ytlnhdfdalfoocaa
