/- Walks of the reference: Put. -/
import Derived.Test.YtlnhdfdalfoocaaR4
import Derived.Test.YtlnhdfdalfoocaaLaneM
import Derived.Deep.LoopGhost
namespace Go.Proofs.Ytlnhdfdalfoocaa
open Go.RowKit

/-- those that were used longest ago go, till n bytes more fit -/
inductive Evicts (quota : Int) (n : Nat) : List Rn → List Rn → Prop
  | stop (l : List Rn) (h : (rtot l : Int) + n ≤ quota) : Evicts quota n l l
  | more (l l' : List Rn) (j : Nat) (hj : j < l.length) (hmin : ∀ (i : Nat) (hi : i < l.length), l[j].at' ≤ l[i].at') (h : quota < (rtot l : Int) + n) (t : Evicts quota n (l.eraseIdx j) l') : Evicts quota n l l'
theorem rtot_erase (l : List Rn) (j : Nat) : rtot (l.eraseIdx j) ≤ rtot l := by
  induction l generalizing j with
  | nil => simp
  | cons a l ih =>
    cases j with
    | zero => simp [rtot]
    | succ j => have := ih j; simp [rtot] at this ⊢; omega
theorem rtot_oth (l : List Rn) (key : ByteArray) : rtot (othR l key) ≤ rtot l := by
  induction l with
  | nil => simp [othR]
  | cons a l ih =>
    unfold othR at ih ⊢
    rw [List.filter_cons]
    split <;> simp [rtot] at ih ⊢ <;> omega
theorem othR_length (l : List Rn) (key : ByteArray) : (othR l key).length ≤ l.length := List.length_filter_le _ _
theorem RStep.at' {w wr : World} {br : Nat} {quota now : Int} {B : Nat → Prop} {l : List Rn} (h : RStep w wr br quota B l now) : ∃ vk vd vw ck cd cw, RAt wr br quota now l vk vd vw ck cd cw := by
  obtain ⟨vk, vd, vw, ck, cd, cw, h1, _⟩ := h
  exact ⟨vk, vd, vw, ck, cd, cw, h1⟩
/-- what was not the reference's stays so -/
theorem RStep.next {w wr w' : World} {br : Nat} {quota now now2 : Int} {B : Nat → Prop} {l l2 : List Rn} (h : RStep w wr br quota B l now) (hn : ∀ vk vd vw ck cd cw, RAt wr br quota now l vk vd vw ck cd cw → RStep wr w' br quota (RB br vk vd vw) l2 now2) : RStep w w' br quota B l2 now2 := by
  obtain ⟨vk, vd, vw, ck, cd, cw, h1, h2, h3⟩ := h
  exact RStep.trans h2 h3 (hn vk vd vw ck cd cw h1)
theorem not_listed {b : Bool} {p : Prop} (h : b = true) : b = false → p := fun hx => by rw [h] at hx; cases hx
/-- the clock's step -/
theorem RAt.clock {w : World} {br : Nat} {quota now : Int} {l : List Rn} {vk vd vw : Value} {ck cd cw : Nat} (h : RAt w br quota now l vk vd vw ck cd cw) (n : Int) :
    RAt (w.setCell ⟨br, 3, none⟩ (.int .i64 n)) br quota n l vk vd vw ck cd cw ∧ Kept (fun k => k = br) w (w.setCell ⟨br, 3, none⟩ (.int .i64 n)) := by
  have hap := h.apart
  obtain ⟨h1, h2, h3, h4, h5⟩ := h
  have k1 : Kept (fun k => k = br) w (w.setCell ⟨br, 3, none⟩ (.int .i64 n)) := (Kept.refl (fun k => k = br) w).setCell (p := ⟨br, 3, none⟩) (fun _ => rfl) _
  exact ⟨⟨heap_setCell_same w br 3 _ 54 _ h1, h2.kept k1 (fun j hj e => hap.1.1 (e ▸ hj)), h3.kept k1 (fun j hj e => hap.1.2.1 (e ▸ hj)), h4.kept k1 (fun j hj e => hap.1.2.2 (e ▸ hj)), h5⟩, k1⟩
theorem RAt.three {w : World} {br : Nat} {quota now : Int} {l : List Rn} {a4 a5 a6 : Option Addr} {ck cd cw : Nat} (h : RAt w br quota now l (.slice a4 l.length ck) (.slice a5 l.length cd) (.slice a6 l.length cw) ck cd cw) (x : Rn) (v31 v32 v41 v42 v51 v52 : Value) : Three .z .z .z w w.drew a4 a5 a6 l.length ck cd cw l x v31 v32 v41 v42 v51 v52 := by
  have hap := h.apart
  obtain ⟨_, h1, h2, h3, h5⟩ := h
  have hk : Kept NoB w w.drew := (Kept.refl _ _).drew
  have g1 := Row.kept h1 hk (fun _ _ h => h)
  have g2 := Row.kept h2 hk (fun _ _ h => h)
  have g3 := Row.kept h3 hk (fun _ _ h => h)
  exact ⟨fun k => (Value.slice a4 l.length ck).ownBlock = some k, fun k => (Value.slice a5 l.length cd).ownBlock = some k, fun k => (Value.slice a6 l.length cw).ownBlock = some k,
    ⟨g1.lt, g1, fun _ h => h⟩, ⟨g2.lt, g2, fun _ h => h⟩, ⟨g3.lt, g3, fun _ h => h⟩, h5, hap.2.1, hap.2.2, hk.of_none, fun k hk => .inl hk⟩
theorem Three.block {p1 p2 p3 : Pg} {w W : World} {br : Nat} {quota now : Int} {l : List Rn} {a4 a5 a6 : Option Addr} {ck cd cw : Nat} {x : Rn} {v31 v32 v41 v42 v51 v52 : Value} (h : Three p1 p2 p3 w W a4 a5 a6 l.length ck cd cw l x v31 v32 v41 v42 v51 v52)
    (H : RAt w br quota now l (.slice a4 l.length ck) (.slice a5 l.length cd) (.slice a6 l.length cw) ck cd cw) : W.heap[br]? = some (.cells #[.slice a4 l.length ck, .slice a5 l.length cd, .slice a6 l.length cw, .int .i64 now, .int .i64 quota] 54 (0, 0)) := by
  obtain ⟨_, _, _, h⟩ := h
  have hap := H.apart
  exact h.old.heap H.1 (fun e => by rcases e with e | e | e; exact hap.1.1 e; exact hap.1.2.1 e; exact hap.1.2.2 e)
/-- the three lists are stored -/
theorem Three.stored {w W : World} {br : Nat} {quota now : Int} {l : List Rn} {a4 a5 a6 : Option Addr} {ck cd cw : Nat} {x : Rn} {v31 v32 v41 v42 v51 v52 : Value} (h : Three .d .d .d w W a4 a5 a6 l.length ck cd cw l x v31 v32 v41 v42 v51 v52)
    (H : RAt w br quota now l (.slice a4 l.length ck) (.slice a5 l.length cd) (.slice a6 l.length cw) ck cd cw) :
    ∃ b4 b5 b6 d4 d5 d6, v32 = .slice b4 (l.length + 1) d4 ∧ v42 = .slice b5 (l.length + 1) d5 ∧ v52 = .slice b6 (l.length + 1) d6 ∧
      RStep w (((W.setCell ⟨br, 0, none⟩ (.slice b4 (l.length + 1) d4)).setCell ⟨br, 1, none⟩ (.slice b5 (l.length + 1) d5)).setCell ⟨br, 2, none⟩ (.slice b6 (l.length + 1) d6)) br quota (RB br (.slice a4 l.length ck) (.slice a5 l.length cd) (.slice a6 l.length cw)) (l ++ [x]) now := by
  have hb := h.block H
  have hap := H.apart
  have hltb := H.lt
  obtain ⟨G1, G2, G3, h⟩ := h
  obtain ⟨_, b4, d4, rfl, r1, g1⟩ := h.l1
  obtain ⟨_, b5, d5, rfl, r2, g2⟩ := h.l2
  obtain ⟨_, b6, d6, rfl, r3, g3⟩ := h.l3
  have hne : ∀ k, G1 k ∨ G2 k ∨ G3 k → k ≠ br := fun k hk e => by
    subst e
    rcases h.ge k hk with (h' | h' | h') | h'
    · exact hap.1.1 h'
    · exact hap.1.2.1 h'
    · exact hap.1.2.2 h'
    · have := hltb k (.inl rfl); omega
  have k1 : Kept (fun k => k = br) W (((W.setCell ⟨br, 0, none⟩ (.slice b4 (l.length + 1) d4)).setCell ⟨br, 1, none⟩ (.slice b5 (l.length + 1) d5)).setCell ⟨br, 2, none⟩ (.slice b6 (l.length + 1) d6)) :=
    (((Kept.refl (fun k => k = br) W).setCell (p := ⟨br, 0, none⟩) (fun _ => rfl) _).setCell (p := ⟨br, 1, none⟩) (fun _ => rfl) _).setCell (p := ⟨br, 2, none⟩) (fun _ => rfl) _
  have hl : (l ++ [x]).length = l.length + 1 := by simp
  refine ⟨b4, b5, b6, d4, d5, d6, rfl, rfl, rfl, .slice b4 (l.length + 1) d4, .slice b5 (l.length + 1) d5, .slice b6 (l.length + 1) d6, d4, d5, d6, ⟨?_, ?_, ?_, ?_, fun k h1 h2 => h.d12 k (g1 k h1) (g2 k h2)⟩, ?_, fun k hk => ?_⟩
  · have e1 := heap_setCell_same W br 0 _ 54 (.slice b4 (l.length + 1) d4) hb
    have e2 := heap_setCell_same _ br 1 _ 54 (.slice b5 (l.length + 1) d5) e1
    have e3 := heap_setCell_same _ br 2 _ 54 (.slice b6 (l.length + 1) d6) e2
    exact e3
  · rw [hl]
    refine Row.kept ?_ k1 (fun k hk e => hne k (.inl (g1 k hk)) e)
    rw [List.map_append]; unfold kcells at r1 ⊢; rw [List.map_append]; exact r1
  · rw [hl]
    refine Row.kept ?_ k1 (fun k hk e => hne k (.inr (.inl (g2 k hk))) e)
    rw [List.map_append]; unfold kcells at r2 ⊢; rw [List.map_append]; exact r2
  · rw [hl]
    refine Row.kept ?_ k1 (fun k hk e => hne k (.inr (.inr (g3 k hk))) e)
    rw [List.map_append]; unfold icells at r3 ⊢; rw [List.map_append]; exact r3
  · refine (h.old.mono (fun k _ e => ?_)).trans k1 (fun i _ e => .inl e)
    exact .inr e
  · rcases hk with e | e | e | e
    · exact .inl (.inl e)
    · rcases h.ge k (.inl (g1 k e)) with h' | h'
      · exact .inl (.inr h')
      · exact .inr h'
    · rcases h.ge k (.inr (.inl (g2 k e))) with h' | h'
      · exact .inl (.inr h')
      · exact .inr h'
    · rcases h.ge k (.inr (.inr (g3 k e))) with h' | h'
      · exact .inl (.inr h')
      · exact .inr h'
theorem cell_then4 {wr W W' : World} {b : Nat} {v : Value} (h : W.cell? ⟨b, 4, none⟩ = some v ∧ Kept NoB wr W) (k : Kept NoB W W') : W'.cell? ⟨b, 4, none⟩ = some v ∧ Kept NoB wr W' :=
  ⟨k.cell h.1 (fun h => h), h.2.then k⟩

set_option maxHeartbeats 1000000 in
theorem rput_big {br : Nat} {quota now : Int} {l : List Rn} {vk vd vw : Value} {ck cd cw : Nat} (key data : ByteArray) (w : World) (h : RAt w br quota now l vk vd vw ck cd cw) (hlen : l.length ≤ 4096) (hnd : (rkeys l).Nodup) (hbig : quota < (data.size : Int)) :
    Calls Try.prog 15 #[.pointer (some ⟨br, 0, none⟩), .string key, .string data] w fun e w' => e = .returned (.bool false) ∧ RStep w w' br quota (RB br vk vd vw) (othR l key) now := by
  have HD := Lib.hid (rdrop_any key w h hlen hnd)
  clear h hnd
  go_enter Try.func15, Try.ntmps15
  go_wp2_with (go_at_call 13; ((refine HD.out.mono ?_); rintro e w1 ⟨rfl, s1⟩; have HS := Lib.hid s1; obtain ⟨_, _, _, _, _, _, hr1⟩ := s1.at'; obtain ⟨hlt1, ⟨c0, c1, c2, c3, c4⟩, _⟩ := block_cells5 hr1.1; clear s1 hr1))
  go_ret
  exact ⟨rfl, HS.out⟩

set_option maxRecDepth 100000 in
set_option maxHeartbeats 8000000 in
theorem rput_fits {br : Nat} {quota now : Int} {l : List Rn} {vk vd vw : Value} {ck cd cw : Nat} (key data : ByteArray) (w : World) (h : RAt w br quota now l vk vd vw ck cd cw) (hlen : l.length ≤ 4000) (hnd : (rkeys l).Nodup) (hfit : (data.size : Int) ≤ quota) (hq : quota ≤ 32768) (hnow : 0 ≤ now ∧ now ≤ 1000000) (htot : rtot l ≤ 32768) :
    Calls Try.prog 15 #[.pointer (some ⟨br, 0, none⟩), .string key, .string data] w fun e w' => e = .returned (.bool true) ∧ ∃ l1, Evicts quota data.size (othR l key) l1 ∧ RStep w w' br quota (RB br vk vd vw) (l1 ++ [⟨key, data, now + 1⟩]) (now + 1) := by
  obtain ⟨i9, hi9, hz90, hz91, hz92⟩ := info_parts info9
  obtain ⟨i3, hi3, hz30, hz31, hz32⟩ := info_parts info3
  have HD := Lib.hid (rdrop_any key w h (by omega) hnd)
  have hol := othR_length l key
  have hot := rtot_oth l key
  obtain ⟨hn0, hn1⟩ := hnow
  clear h hnd
  go_enter Try.func15, Try.ntmps15
  go_wp2_with (go_at_call 13; ((refine HD.out.mono ?_); rintro e w1 ⟨rfl, s1⟩; have HS := Lib.hid s1; obtain ⟨_, _, _, _, _, _, hr1⟩ := s1.at'; obtain ⟨hlt1, ⟨c0, c1, c2, c3, c4⟩, _⟩ := block_cells5 hr1.1; clear s1 hr1))
  go_loopg [26] (othR l key).length (fun gk s26 wr => ∃ lc, Hid (RStep w wr br quota (RB br vk vd vw) lc now ∧ ∀ l', Evicts quota data.size lc l' → Evicts quota data.size (othR l key) l') ∧ lc.length = gk ∧ lc.length ≤ 4000 ∧ rtot lc ≤ 32768)
  case atStart => exact ⟨othR l key, Lib.hid ⟨HS.out, fun _ h => h⟩, rfl, by omega, by omega⟩
  case round =>
    obtain ⟨lc, HC, hgk, hlc, htc⟩ := hrel
    subst hgk
    clear c0 c1 c2 c3 c4
    obtain ⟨vk1, vd1, vw1, ck1, cd1, cw1, hat, hkw, hsub⟩ := HC.out.1
    have HKW := Lib.hid hkw
    have HSUB := Lib.hid hsub
    clear hkw hsub
    have HAT := Lib.hid hat
    obtain ⟨hltr, ⟨c0, c1, c2, c3, c4⟩, f0, f1, f2, f3, f4⟩ := block_cells5 hat.1
    have HU := Lib.hid (fun (W : World) (hW : Kept NoB wr W) => (rused_any W (hat.calm hW) (by omega) (by omega)).mono (R' := fun e w' => e = .returned (.int .i64 (rtot lc)) ∧ Kept NoB W w') fun _ _ ⟨he, hw⟩ => ⟨he, by rw [hw]; exact Kept.refl _ _⟩)
    have HK0 : Hid (wr.drew.cell? ⟨br, 4, none⟩ = some (.int .i64 quota) ∧ Kept NoB wr wr.drew) := Lib.hid ⟨c4, (Kept.refl _ _).drew⟩
    have hwr : IntKind.i64.wrap ((rtot lc : Int) + (data.size : Int)) = (rtot lc : Int) + (data.size : Int) := IntWalk.i64_in _ ⟨by omega, by omega⟩
    clear hat
    by_cases hmore : quota < (rtot lc : Int) + (data.size : Int)
    · have hpos : 0 < lc.length := by
        rcases Nat.eq_zero_or_pos lc.length with h0 | h0
        · have e : lc = [] := List.eq_nil_of_length_eq_zero h0
          subst e
          simp [rtot] at hmore
          omega
        · exact h0
      have HOLD := Lib.hid (fun (W : World) (hW : Kept NoB wr W) => oldest_any W (HAT.out.calm hW) (by omega) hpos)
      have HGO := Lib.hid (fun (W : World) (hW : Kept NoB wr W) (j : Nat) (hj : j < lc.length) => goes_any j W (HAT.out.calm hW) (by omega) hj)
      go_wp2_with fail
      go_region_held3 (fun W => W.cell? ⟨br, 4, none⟩ = some (.int .i64 quota) ∧ Kept NoB wr W)
        (first | (with_reducible assumption) | (exact HK0.out) | (exact cell_then4 (by with_reducible assumption) kc))
        (first | (go_at_call 17; refine (HU.out _ (And.right (by with_reducible assumption))).mono ?_; rintro e w7 ⟨rfl, kc⟩))
      have hk7 : Kept NoB wr w7 := And.right (by assumption)
      go_wp2_with (first
        | (go_at_call 29; ((refine (HOLD.out _ hk7).mono ?_); rintro e w8 ⟨j, rfl, hj, k8⟩; have HJ := Lib.hid hj; have K8 := Lib.hid (hk7.then k8); clear hj k8))
        | (go_at_call 28; ((refine (HGO.out _ K8.out j HJ.out.1).mono ?_); rintro e w9 ⟨rfl, s9⟩; have S9 := Lib.hid s9; clear s9)))
      obtain ⟨hj, hmin⟩ := HJ.out
      go_roundg (lc.length - 1)
      case measure => omega
      case rel =>
        refine ⟨lc.eraseIdx j, Lib.hid ⟨?_, fun l' hl' => HC.out.2 l' (.more lc l' j hj hmin hmore hl')⟩, ?_, ?_, ?_⟩
        · exact RStep.trans HKW.out HSUB.out (RStep.after K8.out S9.out)
        · rw [List.length_eraseIdx, if_pos hj]
        · rw [List.length_eraseIdx, if_pos hj]; omega
        · exact Nat.le_trans (rtot_erase lc j) htc
    · go_wp2_with fail
      go_region_held3 (fun W => W.cell? ⟨br, 4, none⟩ = some (.int .i64 quota) ∧ Kept NoB wr W)
        (first | (with_reducible assumption) | (exact HK0.out) | (exact cell_then4 (by with_reducible assumption) kc))
        (first | (go_at_call 17; refine (HU.out _ (And.right (by with_reducible assumption))).mono ?_; rintro e w7 ⟨rfl, kc⟩))
      have hk7 : Kept NoB wr w7 := And.right (by assumption)
      have H7 := Lib.hid (HAT.out.calm hk7)
      have c5 := hk7.cell c3 (fun h => h)
      obtain ⟨_, _, q0, q1, q2, q3, q4⟩ := block_cells5 H7.out.1
      go_wp2_with fail
      obtain ⟨a4, rfl⟩ := HAT.out.2.1.form
      obtain ⟨a5, rfl⟩ := HAT.out.2.2.1.form
      obtain ⟨a6, rfl⟩ := HAT.out.2.2.2.1.form
      have hclk := H7.out.clock (now + 1)
      obtain ⟨hb, hhb⟩ : ∃ hb, hasR l key = hb := ⟨_, rfl⟩
      rw [hhb]
      generalize w7.setCell ⟨br, 3, none⟩ (.int .i64 (now + 1)) = W1 at hclk ⊢
      have H1 := Lib.hid hclk.1
      have K1 := Lib.hid hclk.2
      have HSS : Hid (∀ W : World, W.heap[br]? = some (.cells #[.slice a4 lc.length ck1, .slice a5 lc.length cd1, .slice a6 lc.length cw1, .int .i64 (now + 1), .int .i64 quota] 54 (0, 0)) → W.cell? ⟨br, 0, none⟩ = some (.slice a4 lc.length ck1) ∧ W.cell? ⟨br, 1, none⟩ = some (.slice a5 lc.length cd1) ∧ W.cell? ⟨br, 2, none⟩ = some (.slice a6 lc.length cw1) ∧ W.cell? ⟨br, 3, none⟩ = some (.int .i64 (now + 1))) :=
        Lib.hid (fun W hW => by obtain ⟨_, ⟨e0, e1, e2, e3, _⟩, _⟩ := block_cells5 hW; exact ⟨e0, e1, e2, e3⟩)
      have hHeld := HSS.out W1.drew (((Kept.refl NoB W1).drew).heap hclk.1.1 (fun h => h))
      clear hclk hhb c0 c1 c2 c3 c4 c5 f0 f1 f2 f3 f4 q0 q1 q2 q3 q4
      refine wp_region_M (S := fun W => W.cell? ⟨br, 0, none⟩ = some (.slice a4 lc.length ck1) ∧ W.cell? ⟨br, 1, none⟩ = some (.slice a5 lc.length cd1) ∧ W.cell? ⟨br, 2, none⟩ = some (.slice a6 lc.length cw1) ∧ W.cell? ⟨br, 3, none⟩ = some (.int .i64 (now + 1))) (mm := 29) (by kernel_rfl) ?_
      refine wpAnyM_pure (i := 0) (oi := _) (v := ?_) rfl (by kernel_rfl) (by kernel_rfl) (by kernel_rfl) (by rfl) (fun _ _ _ h => h) (Or.inl ⟨by rfl, (by intro w hSw; first | (go_simp; done) | (go_simp; with_reducible rfl))⟩) (fun _ => hHeld) ?_
      try simp only [Act.put, List.getElem_toArray, List.getElem_cons_zero, List.setIfInBounds_toArray, List.set_cons_zero, List.set_cons_succ]
      refine wpAnyM_pure (i := 1) (oi := _) (v := ?_) rfl (by kernel_rfl) (by kernel_rfl) (by kernel_rfl) (by rfl) (fun _ _ _ h => h) (Or.inl ⟨by rfl, (by intro w hSw; first | (go_simp; done) | (go_simp; with_reducible rfl))⟩) (fun _ => hHeld) ?_
      try simp only [Act.put, List.getElem_toArray, List.getElem_cons_succ, List.getElem_cons_zero, List.setIfInBounds_toArray, List.set_cons_zero, List.set_cons_succ]
      refine wpAnyM_pure (i := 2) (oi := _) (v := ?_) rfl (by kernel_rfl) (by kernel_rfl) (by kernel_rfl) (by rfl) (fun _ _ _ h => h) (Or.inl ⟨by rfl, (by intro w hSw; first | (go_simp; done) | (go_simp; with_reducible rfl))⟩) (fun _ => hHeld) ?_
      try simp only [Act.put, List.getElem_toArray, List.getElem_cons_succ, List.getElem_cons_zero, List.setIfInBounds_toArray, List.set_cons_zero, List.set_cons_succ]
      refine wpAnyM_pure (i := 3) (oi := _) (v := ?_) rfl (by kernel_rfl) (by kernel_rfl) (by kernel_rfl) (by rfl) (fun _ _ _ h => h) (Or.inl ⟨by rfl, (by intro w hSw; first | (go_simp; done) | (go_simp; with_reducible rfl))⟩) (fun _ => hHeld) ?_
      try simp only [Act.put, List.getElem_toArray, List.getElem_cons_succ, List.getElem_cons_zero, List.setIfInBounds_toArray, List.set_cons_zero, List.set_cons_succ]
      refine wpAnyM_pure (i := 4) (oi := _) (v := ?_) rfl (by kernel_rfl) (by kernel_rfl) (by kernel_rfl) (by rfl) (fun _ _ _ h => h) (Or.inl ⟨by rfl, (by intro w hSw; first | (go_simp; done) | (go_simp; with_reducible rfl))⟩) (fun _ => hHeld) ?_
      try simp only [Act.put, List.getElem_toArray, List.getElem_cons_succ, List.getElem_cons_zero, List.setIfInBounds_toArray, List.set_cons_zero, List.set_cons_succ]
      refine wpAnyM_pure (i := 5) (oi := _) (v := ?_) rfl (by kernel_rfl) (by kernel_rfl) (by kernel_rfl) (by rfl) (fun _ _ _ h => h) (Or.inl ⟨by rfl, (by intro w hSw; first | (go_simp; done) | (go_simp; with_reducible rfl))⟩) (fun _ => hHeld) ?_
      try simp only [Act.put, List.getElem_toArray, List.getElem_cons_succ, List.getElem_cons_zero, List.setIfInBounds_toArray, List.set_cons_zero, List.set_cons_succ]
      refine wpAnyM_take (i := 6) (oi := _) (v := ?_) rfl (by kernel_rfl) (by kernel_rfl) (by kernel_rfl) (by kernel_rfl) (fun _ _ _ h => h) (Or.inl ⟨by rfl, (by intro w hSw; (try dsimp only at hSw); first | (go_simp; done) | (go_simp; with_reducible rfl))⟩) hHeld ?_
      try simp only [Act.put, List.getElem_toArray, List.getElem_cons_succ, List.getElem_cons_zero, List.setIfInBounds_toArray, List.set_cons_zero, List.set_cons_succ]
      refine wpAnyM_pure (i := 7) (oi := _) (v := ?_) rfl (by kernel_rfl) (by kernel_rfl) (by kernel_rfl) (by rfl) (fun _ _ _ h => h) (Or.inl ⟨by rfl, (by intro w hSw; first | (go_simp; done) | (go_simp; with_reducible rfl))⟩) (fun _ => hHeld) ?_
      try simp only [Act.put, List.getElem_toArray, List.getElem_cons_succ, List.getElem_cons_zero, List.setIfInBounds_toArray, List.set_cons_zero, List.set_cons_succ]
      refine wpAnyM_pure (i := 10) (oi := _) (v := ?_) rfl (by kernel_rfl) (by kernel_rfl) (by kernel_rfl) (by rfl) (fun _ _ _ h => h) (Or.inl ⟨by rfl, (by intro w hSw; first | (go_simp; done) | (go_simp; with_reducible rfl))⟩) (fun _ => hHeld) ?_
      try simp only [Act.put, List.getElem_toArray, List.getElem_cons_succ, List.getElem_cons_zero, List.setIfInBounds_toArray, List.set_cons_zero, List.set_cons_succ]
      refine wpAnyM_pure (i := 11) (oi := _) (v := ?_) rfl (by kernel_rfl) (by kernel_rfl) (by kernel_rfl) (by rfl) (fun _ _ _ h => h) (Or.inl ⟨by rfl, (by intro w hSw; first | (go_simp; done) | (go_simp; with_reducible rfl))⟩) (fun _ => hHeld) ?_
      try simp only [Act.put, List.getElem_toArray, List.getElem_cons_succ, List.getElem_cons_zero, List.setIfInBounds_toArray, List.set_cons_zero, List.set_cons_succ]
      refine wpAnyM_pure (i := 12) (oi := _) (v := ?_) rfl (by kernel_rfl) (by kernel_rfl) (by kernel_rfl) (by rfl) (fun _ _ _ h => h) (Or.inl ⟨by rfl, (by intro w hSw; first | (go_simp; done) | (go_simp; with_reducible rfl))⟩) (fun _ => hHeld) ?_
      try simp only [Act.put, List.getElem_toArray, List.getElem_cons_succ, List.getElem_cons_zero, List.setIfInBounds_toArray, List.set_cons_zero, List.set_cons_succ]
      refine wpAnyM_take (i := 13) (oi := _) (v := ?_) rfl (by kernel_rfl) (by kernel_rfl) (by kernel_rfl) (by kernel_rfl) (fun _ _ _ h => h) (Or.inl ⟨by rfl, (by intro w hSw; (try dsimp only at hSw); first | (go_simp; done) | (go_simp; with_reducible rfl))⟩) hHeld ?_
      try simp only [Act.put, List.getElem_toArray, List.getElem_cons_succ, List.getElem_cons_zero, List.setIfInBounds_toArray, List.set_cons_zero, List.set_cons_succ]
      refine wpAnyM_pure (i := 14) (oi := _) (v := ?_) rfl (by kernel_rfl) (by kernel_rfl) (by kernel_rfl) (by rfl) (fun _ _ _ h => h) (Or.inl ⟨by rfl, (by intro w hSw; first | (go_simp; done) | (go_simp; with_reducible rfl))⟩) (fun _ => hHeld) ?_
      try simp only [Act.put, List.getElem_toArray, List.getElem_cons_succ, List.getElem_cons_zero, List.setIfInBounds_toArray, List.set_cons_zero, List.set_cons_succ]
      refine wpAnyM_pure (i := 17) (oi := _) (v := ?_) rfl (by kernel_rfl) (by kernel_rfl) (by kernel_rfl) (by rfl) (fun _ _ _ h => h) (Or.inl ⟨by rfl, (by intro w hSw; first | (go_simp; done) | (go_simp; with_reducible rfl))⟩) (fun _ => hHeld) ?_
      try simp only [Act.put, List.getElem_toArray, List.getElem_cons_succ, List.getElem_cons_zero, List.setIfInBounds_toArray, List.set_cons_zero, List.set_cons_succ]
      refine wpAnyM_pure (i := 18) (oi := _) (v := ?_) rfl (by kernel_rfl) (by kernel_rfl) (by kernel_rfl) (by rfl) (fun _ _ _ h => h) (Or.inl ⟨by rfl, (by intro w hSw; first | (go_simp; done) | (go_simp; with_reducible rfl))⟩) (fun _ => hHeld) ?_
      try simp only [Act.put, List.getElem_toArray, List.getElem_cons_succ, List.getElem_cons_zero, List.setIfInBounds_toArray, List.set_cons_zero, List.set_cons_succ]
      refine wpAnyM_pure (i := 19) (oi := _) (v := ?_) rfl (by kernel_rfl) (by kernel_rfl) (by kernel_rfl) (by rfl) (fun _ _ _ h => h) (Or.inl ⟨by rfl, (by intro w hSw; first | (go_simp; done) | (go_simp; with_reducible rfl))⟩) (fun _ => hHeld) ?_
      try simp only [Act.put, List.getElem_toArray, List.getElem_cons_succ, List.getElem_cons_zero, List.setIfInBounds_toArray, List.set_cons_zero, List.set_cons_succ]
      refine wpAnyM_take (i := 20) (oi := _) (v := ?_) rfl (by kernel_rfl) (by kernel_rfl) (by kernel_rfl) (by kernel_rfl) (fun _ _ _ h => h) (Or.inl ⟨by rfl, (by intro w hSw; (try dsimp only at hSw); first | (go_simp; done) | (go_simp; with_reducible rfl))⟩) hHeld ?_
      try simp only [Act.put, List.getElem_toArray, List.getElem_cons_succ, List.getElem_cons_zero, List.setIfInBounds_toArray, List.set_cons_zero, List.set_cons_succ]
      refine wpAnyM_pure (i := 21) (oi := _) (v := ?_) rfl (by kernel_rfl) (by kernel_rfl) (by kernel_rfl) (by rfl) (fun _ _ _ h => h) (Or.inl ⟨by rfl, (by intro w hSw; first | (go_simp; done) | (go_simp; with_reducible rfl))⟩) (fun _ => hHeld) ?_
      try simp only [Act.put, List.getElem_toArray, List.getElem_cons_succ, List.getElem_cons_zero, List.setIfInBounds_toArray, List.set_cons_zero, List.set_cons_succ]
      refine wpAnyM_pure (i := 22) (oi := _) (v := ?_) rfl (by kernel_rfl) (by kernel_rfl) (by kernel_rfl) (by rfl) (fun _ _ _ h => h) (Or.inl ⟨by rfl, (by intro w hSw; first | (go_simp; done) | (go_simp; with_reducible rfl))⟩) (fun _ => hHeld) ?_
      try simp only [Act.put, List.getElem_toArray, List.getElem_cons_succ, List.getElem_cons_zero, List.setIfInBounds_toArray, List.set_cons_zero, List.set_cons_succ]
      refine wpAnyM_pure (i := 23) (oi := _) (v := ?_) rfl (by kernel_rfl) (by kernel_rfl) (by kernel_rfl) (by rfl) (fun _ _ _ h => h) (Or.inl ⟨by rfl, (by intro w hSw; first | (go_simp; done) | (go_simp; with_reducible rfl))⟩) (fun _ => hHeld) ?_
      try simp only [Act.put, List.getElem_toArray, List.getElem_cons_succ, List.getElem_cons_zero, List.setIfInBounds_toArray, List.set_cons_zero, List.set_cons_succ]
      refine wpAnyM_take (i := 24) (oi := _) (v := ?_) rfl (by kernel_rfl) (by kernel_rfl) (by kernel_rfl) (by kernel_rfl) (fun _ _ _ h => h) (Or.inl ⟨by rfl, (by intro w hSw; (try dsimp only at hSw); first | (go_simp; done) | (go_simp; with_reducible rfl))⟩) hHeld ?_
      try simp only [Act.put, List.getElem_toArray, List.getElem_cons_succ, List.getElem_cons_zero, List.setIfInBounds_toArray, List.set_cons_zero, List.set_cons_succ]
      refine to_lanesM (lanes_walkM 9 8 9 15 16 25 26 (fun p1 p2 p3 => #[true, true, true, true, true, true, true, true, p1.m, p1.a, true, true, true, true, true, p2.m, p2.a, true, true, true, true, true, true, true, true, p3.m, p3.a, false, false, false, false, false, false, false, false, false]) (fun v31 v32 v41 v42 v51 v52 => { tmps := #[.pointer (some ⟨br, 0, none⟩), .string key, .string data, undef, undef, undef, .bool false, .pointer (some ⟨br, 0, none⟩), .string key, .bool hb, .string data, .int .i64 data.size, .pointer (some ⟨br, 0, none⟩), .pointer (some ⟨br, 0, none⟩), .pointer (some ⟨br, 4, none⟩), .int .i64 quota, .bool (decide (quota < (data.size : Int))), .pointer (some ⟨br, 0, none⟩), .int .i64 (rtot lc), .string data, .int .i64 data.size, .int .i64 ((rtot lc : Int) + (data.size : Int)), .pointer (some ⟨br, 0, none⟩), .pointer (some ⟨br, 0, none⟩), .pointer (some ⟨br, 4, none⟩), .int .i64 quota, .bool (decide (quota < (rtot lc : Int) + (data.size : Int))), u27, u28, u29, u30, .pointer (some ⟨br, 0, none⟩), .pointer (some ⟨br, 0, none⟩), .pointer (some ⟨br, 3, none⟩), .int .i64 now, .int .i64 (now + 1), .pointer (some ⟨br, 0, none⟩), .pointer (some ⟨br, 3, none⟩), .pointer (some ⟨br, 0, none⟩), .pointer (some ⟨br, 0, none⟩), .pointer (some ⟨br, 0, none⟩), .pointer (some ⟨br, 0, none⟩), .pointer (some ⟨br, 0, none⟩), .pointer (some ⟨br, 0, none⟩), .slice a4 lc.length ck1, .string key, v31, v32, .pointer (some ⟨br, 0, none⟩), .pointer (some ⟨br, 0, none⟩), .pointer (some ⟨br, 1, none⟩), .slice a5 lc.length cd1, .string data, v41, v42, .pointer (some ⟨br, 0, none⟩), .pointer (some ⟨br, 0, none⟩), .pointer (some ⟨br, 2, none⟩), .slice a6 lc.length cw1, .pointer (some ⟨br, 0, none⟩), .pointer (some ⟨br, 0, none⟩), .pointer (some ⟨br, 3, none⟩), .int .i64 (now + 1), v51, v52, undef, undef, undef, undef, undef, undef], defers := [] }) (fun p1 p2 p3 v31 v32 v41 v42 v51 v52 W => Three p1 p2 p3 W1 W a4 a5 a6 lc.length ck1 cd1 cw1 lc ⟨key, data, now + 1⟩ v31 v32 v41 v42 v51 v52)
        (fun p1 p2 p3 h0 h2 h3 => by revert h0 h2 h3; cases p1 <;> cases p2 <;> cases p3 <;> first | (intro h0 h2 h3; simp [Pg.left] at h0 h2 h3; done) | (intro _ _ _; kernel_rfl))
        (fun p2 p3 => by cases p2 <;> cases p3 <;> rfl) (fun p2 p3 => by cases p2 <;> cases p3 <;> rfl) (fun p1 p3 => by cases p1 <;> cases p3 <;> rfl) (fun p1 p3 => by cases p1 <;> cases p3 <;> rfl) (fun p1 p2 => by cases p1 <;> cases p2 <;> rfl) (fun p1 p2 => by cases p1 <;> cases p2 <;> rfl)
        (fun p1 p2 p3 _ _ _ _ _ _ W hst => HSS.out W (hst.block H1.out))
        (fun _ _ _ _ _ _ _ _ _ hst => by
        intro K hG
        obtain ⟨G1, G2, G3, hL⟩ := hst
        obtain ⟨G, hM⟩ := hL.made
        have HM := Lib.hid hM
        clear hM hL
        refine wpOp_step (o := _) rfl (fun K' hK => ?_)
        go_simp
        exact hK _ _ (hG _ _ ⟨_, _, _, HM.out⟩))
        (fun _ _ _ _ _ _ _ _ _ hst => by
        intro K hG
        obtain ⟨G1, G2, G3, hL⟩ := hst
        have hl := hL.l1
        obtain ⟨_, hrow, _, B, hv, hB, _⟩ := hl
        subst hv
        have HL := Lib.hid hL
        clear hL
        refine wpOp_step (o := _) rfl (fun K' hK => ?_)
        refine step_append_any rfl (.tmp 44) (.tmp 46) 39 rfl 9 i9 _ 1 16 Try.underlying39 hi9 hz90 hz91 hz92 rfl (by decide) (.slice a4 lc.length ck1) lc.length ck1 (kcells (lc.map Rn.key)) rfl hrow (.slice (some ⟨B, 0, none⟩) 1 1) 1 [.string key] rfl (src_of_block hB) (by intro u hu; simp only [List.mem_singleton] at hu; subst hu; rfl) (lc.length + 1) rfl _ rfl (by unfold maxLen; omega) (by omega) ?_
        intro ao cap' w' hrow' hgrow hat _
        obtain ⟨G, hM⟩ := HL.out.done rfl rfl hrow' hgrow hat
        exact hK _ _ (hG _ _ ⟨_, _, _, hM⟩))
        (fun _ _ _ _ _ _ _ _ _ hst => by
        intro K hG
        obtain ⟨G1, G2, G3, hL⟩ := hst
        obtain ⟨G, hM⟩ := hL.turn.made
        have HM := Lib.hid hM.turn.turn
        clear hM hL
        refine wpOp_step (o := _) rfl (fun K' hK => ?_)
        go_simp
        exact hK _ _ (hG _ _ ⟨_, _, _, HM.out⟩))
        (fun _ _ _ _ _ _ _ _ _ hst => by
        intro K hG
        obtain ⟨G1, G2, G3, hL⟩ := hst
        have hl := hL.turn.l1
        obtain ⟨_, hrow, _, B, hv, hB, _⟩ := hl
        subst hv
        have HL := Lib.hid hL
        clear hL
        refine wpOp_step (o := _) rfl (fun K' hK => ?_)
        refine step_append_any rfl (.tmp 51) (.tmp 53) 39 rfl 9 i9 _ 1 16 Try.underlying39 hi9 hz90 hz91 hz92 rfl (by decide) (.slice a5 lc.length cd1) lc.length cd1 (kcells (lc.map Rn.data)) rfl hrow (.slice (some ⟨B, 0, none⟩) 1 1) 1 [.string data] rfl (src_of_block hB) (by intro u hu; simp only [List.mem_singleton] at hu; subst hu; rfl) (lc.length + 1) rfl _ rfl (by unfold maxLen; omega) (by omega) ?_
        intro ao cap' w' hrow' hgrow hat _
        obtain ⟨G, hM⟩ := HL.out.turn.done rfl rfl hrow' hgrow hat
        exact hK _ _ (hG _ _ ⟨_, _, _, hM.turn.turn⟩))
        (fun _ _ _ _ _ _ _ _ _ hst => by
        intro K hG
        obtain ⟨G1, G2, G3, hL⟩ := hst
        obtain ⟨G, hM⟩ := hL.turn.turn.made
        have HM := Lib.hid hM.turn
        clear hM hL
        refine wpOp_step (o := _) rfl (fun K' hK => ?_)
        go_simp
        exact hK _ _ (hG _ _ ⟨_, _, _, HM.out⟩))
        (fun _ _ _ _ _ _ _ _ _ hst => by
        intro K hG
        obtain ⟨G1, G2, G3, hL⟩ := hst
        have hl := hL.turn.turn.l1
        obtain ⟨_, hrow, _, B, hv, hB, _⟩ := hl
        subst hv
        have HL := Lib.hid hL
        clear hL
        refine wpOp_step (o := _) rfl (fun K' hK => ?_)
        refine step_append_any rfl (.tmp 58) (.tmp 63) 52 rfl 3 i3 _ 1 8 Try.underlying52 hi3 hz30 hz31 hz32 rfl (by decide) (.slice a6 lc.length cw1) lc.length cw1 (icells (lc.map Rn.at')) rfl hrow (.slice (some ⟨B, 0, none⟩) 1 1) 1 [.int .i64 (now + 1)] rfl (src_of_block hB) (by intro u hu; simp only [List.mem_singleton] at hu; subst hu; rfl) (lc.length + 1) rfl _ rfl (by unfold maxLen; omega) (by omega) ?_
        intro ao cap' w' hrow' hgrow hat _
        obtain ⟨G, hM⟩ := HL.out.turn.turn.done rfl rfl hrow' hgrow hat
        exact hK _ _ (hG _ _ ⟨_, _, _, hM.turn⟩))
        ?hend undef undef undef undef undef undef W1.drew (H1.out.three ⟨key, data, now + 1⟩ _ _ _ _ _ _)) (by kernel_rfl) (by kernel_rfl) rfl
      rintro v31 v32 v41 v42 v51 v52 W hst hSW
      have hblock := hst.block H1.out
      obtain ⟨b4, b5, b6, d4', d5', d6', rfl, rfl, rfl, hsto⟩ := hst.stored H1.out
      have HSTO := Lib.hid hsto
      obtain ⟨hltW, ⟨e0, e1, e2, e3, e4⟩, g0, g1, g2, g3, g4⟩ := block_cells5 hblock
      clear hst hsto hblock
      dsimp only
      refine wpAnyM_pure (i := 27) (oi := _) (v := ?_) rfl (by kernel_rfl) (by kernel_rfl) (by kernel_rfl) (by rfl) (fun _ _ _ h => h) (Or.inl ⟨by rfl, (by intro w hSw; first | (go_simp; done) | (go_simp; with_reducible rfl))⟩) (fun _ => hSW) ?_
      try simp only [Act.put, List.getElem_toArray, List.getElem_cons_succ, List.getElem_cons_zero, List.setIfInBounds_toArray, List.set_cons_zero, List.set_cons_succ]
      refine wpAnyM_pure (i := 28) (oi := _) (v := ?_) rfl (by kernel_rfl) (by kernel_rfl) (by kernel_rfl) (by rfl) (fun _ _ _ h => h) (Or.inl ⟨by rfl, (by intro w hSw; first | (go_simp; done) | (go_simp; with_reducible rfl))⟩) (fun _ => hSW) ?_
      try simp only [Act.put, List.getElem_toArray, List.getElem_cons_succ, List.getElem_cons_zero, List.setIfInBounds_toArray, List.set_cons_zero, List.set_cons_succ]
      refine wpAnyM_one (i := 29) (o := _) (by kernel_rfl) rfl (fun K' hK => ?_)
      go_simp
      refine hK.out _ _ (not_listed (by kernel_rfl)) ?_
      clear hK K'
      try simp only [List.setIfInBounds_toArray, List.set_cons_zero, List.set_cons_succ]
      refine wpAnyM_pure (i := 30) (oi := _) (v := ?_) rfl (by kernel_rfl) (by kernel_rfl) (by kernel_rfl) (by rfl) (fun _ _ _ h => h) (Or.inl ⟨by rfl, (by intro w hSw; first | (go_simp; done) | (go_simp; with_reducible rfl))⟩) (not_listed (by kernel_rfl)) ?_
      try simp only [Act.put, List.getElem_toArray, List.getElem_cons_succ, List.getElem_cons_zero, List.setIfInBounds_toArray, List.set_cons_zero, List.set_cons_succ]
      refine wpAnyM_pure (i := 31) (oi := _) (v := ?_) rfl (by kernel_rfl) (by kernel_rfl) (by kernel_rfl) (by rfl) (fun _ _ _ h => h) (Or.inl ⟨by rfl, (by intro w hSw; first | (go_simp; done) | (go_simp; with_reducible rfl))⟩) (not_listed (by kernel_rfl)) ?_
      try simp only [Act.put, List.getElem_toArray, List.getElem_cons_succ, List.getElem_cons_zero, List.setIfInBounds_toArray, List.set_cons_zero, List.set_cons_succ]
      refine wpAnyM_one (i := 32) (o := _) (by kernel_rfl) rfl (fun K' hK => ?_)
      go_simp
      refine hK.out _ _ (not_listed (by kernel_rfl)) ?_
      clear hK K'
      try simp only [List.setIfInBounds_toArray, List.set_cons_zero, List.set_cons_succ]
      refine wpAnyM_pure (i := 33) (oi := _) (v := ?_) rfl (by kernel_rfl) (by kernel_rfl) (by kernel_rfl) (by rfl) (fun _ _ _ h => h) (Or.inl ⟨by rfl, (by intro w hSw; first | (go_simp; done) | (go_simp; with_reducible rfl))⟩) (not_listed (by kernel_rfl)) ?_
      try simp only [Act.put, List.getElem_toArray, List.getElem_cons_succ, List.getElem_cons_zero, List.setIfInBounds_toArray, List.set_cons_zero, List.set_cons_succ]
      refine wpAnyM_pure (i := 34) (oi := _) (v := ?_) rfl (by kernel_rfl) (by kernel_rfl) (by kernel_rfl) (by rfl) (fun _ _ _ h => h) (Or.inl ⟨by rfl, (by intro w hSw; first | (go_simp; done) | (go_simp; with_reducible rfl))⟩) (not_listed (by kernel_rfl)) ?_
      try simp only [Act.put, List.getElem_toArray, List.getElem_cons_succ, List.getElem_cons_zero, List.setIfInBounds_toArray, List.set_cons_zero, List.set_cons_succ]
      refine wpAnyM_one (i := 35) (o := _) (by kernel_rfl) rfl (fun K' hK => ?_)
      go_simp
      refine hK.out _ _ (not_listed (by kernel_rfl)) ?_
      clear hK K'
      try simp only [List.setIfInBounds_toArray, List.set_cons_zero, List.set_cons_succ]
      refine wpAnyM_done (by kernel_rfl) ?_ _
      go_wp2_with fail
      go_ret
      exact ⟨rfl, lc, HC.out.2 lc (.stop lc (by omega)), RStep.trans HKW.out HSUB.out (RStep.after hk7 (RStep.trans (K1.out.mono (fun k _ e => .inl e)) (fun k hk => .inl hk) HSTO.out))⟩
end Go.Proofs.Ytlnhdfdalfoocaa
