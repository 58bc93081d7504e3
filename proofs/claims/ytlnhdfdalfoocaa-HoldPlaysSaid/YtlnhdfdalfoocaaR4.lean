/- Walks of the reference: Drop and Get. -/
import Derived.Test.YtlnhdfdalfoocaaR3
import Derived.StillTailTactics
namespace Go.Proofs.Ytlnhdfdalfoocaa
open Go.RowKit

theorem RStep.calm {w w' : World} {br : Nat} {quota now : Int} {l : List Rn} {vk vd vw : Value} {ck cd cw : Nat} (h : RAt w br quota now l vk vd vw ck cd cw) (hk : Kept NoB w w') : RStep w w' br quota (RB br vk vd vw) l now :=
  ⟨vk, vd, vw, ck, cd, cw, h.calm hk, hk.of_none, fun _ hb => .inl hb⟩
theorem RStep.trans {a b c : World} {br : Nat} {quota now2 : Int} {B B1 : Nat → Prop} {l2 : List Rn} (K : Kept B a b) (hB : ∀ k, B1 k → B k ∨ a.heap.size ≤ k) (h2 : RStep b c br quota B1 l2 now2) : RStep a c br quota B l2 now2 := by
  obtain ⟨vk, vd, vw, ck, cd, cw, h3, h4, h5⟩ := h2
  have hs := K.size
  refine ⟨vk, vd, vw, ck, cd, cw, h3, K.trans h4 (fun i hi h => ?_), fun k hk => ?_⟩
  · rcases hB i h with h | h
    · exact h
    · omega
  · rcases h5 k hk with h | h
    · exact hB k h
    · exact .inr (by omega)
theorem RStep.after {a b c : World} {br : Nat} {quota now2 : Int} {B : Nat → Prop} {l2 : List Rn} (K : Kept NoB a b) (h2 : RStep b c br quota B l2 now2) : RStep a c br quota B l2 now2 := RStep.trans K.of_none (fun _ h => .inl h) h2
theorem RStep.then {a b c : World} {br : Nat} {quota now2 : Int} {B : Nat → Prop} {l2 : List Rn} (h : RStep a b br quota B l2 now2) (K : Kept NoB b c) : RStep a c br quota B l2 now2 := by
  obtain ⟨vk, vd, vw, ck, cd, cw, h3, h4, h5⟩ := h
  exact ⟨vk, vd, vw, ck, cd, cw, h3.calm K, h4.then K, h5⟩

def rkeys (l : List Rn) : List ByteArray := l.map Rn.key
def othR (l : List Rn) (key : ByteArray) : List Rn := l.filter fun r => decide (r.key ≠ key)
def hasR (l : List Rn) (key : ByteArray) : Bool := l.any fun r => decide (r.key = key)
theorem othR_none (l : List Rn) (key : ByteArray) (h : ∀ r ∈ l, r.key ≠ key) : othR l key = l := by
  unfold othR; rw [List.filter_eq_self]; intro r hr; simpa using h r hr
theorem othR_eraseIdx (l : List Rn) (key : ByteArray) (k : Nat) (hk : k < l.length) (hkey : l[k].key = key) (hnd : (rkeys l).Nodup) : l.eraseIdx k = othR l key := by
  induction l generalizing k with
  | nil => simp at hk
  | cons a l ih =>
    simp only [rkeys, List.map_cons, List.nodup_cons] at hnd
    cases k with
    | zero =>
      simp only [List.getElem_cons_zero] at hkey
      rw [List.eraseIdx_cons_zero]
      unfold othR
      rw [List.filter_cons_of_neg (by simpa using hkey)]
      exact (othR_none l key (fun e he h => hnd.1 (by rw [hkey, ← h]; exact List.mem_map_of_mem he))).symm
    | succ k =>
      simp only [List.getElem_cons_succ] at hkey
      have hk' : k < l.length := by simpa using hk
      have hne : a.key ≠ key := fun h => hnd.1 (by rw [h, ← hkey]; exact List.mem_map_of_mem (List.getElem_mem hk'))
      rw [List.eraseIdx_cons_succ, ih k hk' hkey hnd.2]
      unfold othR
      rw [List.filter_cons_of_pos (by simpa using hne)]
theorem hasR_yes (l : List Rn) (key : ByteArray) (k : Nat) (hk : k < l.length) (hkey : l[k].key = key) : hasR l key = true := by
  unfold hasR; rw [List.any_eq_true]; exact ⟨l[k], List.getElem_mem hk, by simpa using hkey⟩
theorem hasR_no (l : List Rn) (key : ByteArray) (h : ∀ r ∈ l, r.key ≠ key) : hasR l key = false := by
  unfold hasR; rw [List.any_eq_false]; intro r hr; simpa using h r hr

set_option maxHeartbeats 1000000 in
theorem rdrop_any {br : Nat} {quota now : Int} {l : List Rn} {vk vd vw : Value} {ck cd cw : Nat} (key : ByteArray) (w : World) (h : RAt w br quota now l vk vd vw ck cd cw) (hlen : l.length ≤ 4096) (hnd : (rkeys l).Nodup) :
    Calls Try.prog 13 #[.pointer (some ⟨br, 0, none⟩), .string key] w fun e w' => e = .returned (.bool (hasR l key)) ∧ RStep w w' br quota (RB br vk vd vw) (othR l key) now := by
  have HI := Lib.hid (is_any key w h hlen)
  have HG := Lib.hid (fun k hk => goes_any k w h hlen hk)
  have HH := Lib.hid h
  have HND := Lib.hid hnd
  clear h hnd
  go_enter Try.func13, Try.ntmps13
  go_wp2_with fail
  refine HI.out.mono ?_
  rintro e w1 ⟨i, rfl, hi, rfl⟩
  rcases hi with ⟨k, hk, rfl, hkey⟩ | ⟨rfl, hno⟩
  · have H1 := Lib.hid (hasR_yes l key k hk hkey)
    have H2 := Lib.hid (othR_eraseIdx l key k hk hkey HND.out)
    clear hkey
    go_wp2_with (go_at_call 28; ((refine (HG.out k hk).mono ?_); rintro e w2 ⟨rfl, s2⟩; have S2 := Lib.hid s2; clear s2))
    go_ret
    exact ⟨by rw [H1.out]; rfl, by rw [← H2.out]; exact S2.out⟩
  · have H1 := Lib.hid (hasR_no l key hno)
    have H2 := Lib.hid (othR_none l key hno)
    clear hno
    go_wp2_with fail
    go_ret
    exact ⟨by rw [H1.out]; rfl, by rw [H2.out]; exact RStep.calm HH.out (Kept.refl _ _)⟩

/-! Get -/
theorem map_set_same {α : Type} (f : Rn → α) (l : List Rn) (k : Nat) (hk : k < l.length) (x : Rn) (h : f x = f l[k]) : (l.set k x).map f = l.map f := by
  rw [List.map_set, h]
  apply List.ext_getElem?
  intro i
  rw [List.getElem?_set]
  split
  · rename_i e
    subst e
    simp [hk]
  · rfl
/-- behind the clock's step, and the store of the time -/
theorem RAt.used {w : World} {br : Nat} {quota now : Int} {l : List Rn} {vk vd : Value} {ck cd cw gw : Nat} (h : RAt w br quota now l vk vd (.slice (some ⟨gw, 0, none⟩) l.length cw) ck cd cw) (k : Nat) (hk : k < l.length) (W : World) (hW : Kept NoB (w.setCell ⟨br, 3, none⟩ (.int .i64 (now + 1))) W) :
    RStep w (W.setCell ⟨gw, k, none⟩ (.int .i64 (now + 1))) br quota (RB br vk vd (.slice (some ⟨gw, 0, none⟩) l.length cw)) (l.set k ⟨l[k].key, l[k].data, now + 1⟩) (now + 1) := by
  have hlt := h.lt
  have hap := h.apart
  obtain ⟨h1, h2, h3, h4, h5⟩ := h
  have hgb : gw ≠ br := fun e => hap.1.2.2 (by rw [e]; rfl)
  have k1 : Kept (fun k => k = br) w (w.setCell ⟨br, 3, none⟩ (.int .i64 (now + 1))) := (Kept.refl (fun k => k = br) w).setCell (p := ⟨br, 3, none⟩) (fun _ => rfl) _
  have k2 : Kept (fun k => k = br) w W := k1.then hW
  have k3 : Kept (fun k => k = gw) W (W.setCell ⟨gw, k, none⟩ (.int .i64 (now + 1))) := (Kept.refl (fun k => k = gw) W).setCell (p := ⟨gw, k, none⟩) (fun _ => rfl) _
  refine ⟨vk, vd, .slice (some ⟨gw, 0, none⟩) l.length cw, ck, cd, cw, ⟨?_, ?_, ?_, ?_, h5⟩, ?_, fun k hk' => .inl hk'⟩
  · exact k3.heap (hW.heap (heap_setCell_same w br 3 _ 54 _ h1) (fun h => h)) (fun e => hgb e.symm)
  · rw [List.length_set]
    have e : (l.set k ⟨l[k].key, l[k].data, now + 1⟩).map Rn.key = l.map Rn.key := map_set_same Rn.key l k hk _ rfl
    rw [e]
    exact (h2.kept k2 (fun j hj e => hap.1.1 (e ▸ hj))).kept k3 (fun j hj e => hap.2.1 j hj (by rw [e]; rfl))
  · rw [List.length_set]
    have e : (l.set k ⟨l[k].key, l[k].data, now + 1⟩).map Rn.data = l.map Rn.data := map_set_same Rn.data l k hk _ rfl
    rw [e]
    exact (h3.kept k2 (fun j hj e => hap.1.2.1 (e ▸ hj))).kept k3 (fun j hj e => hap.2.2 j hj (by rw [e]; rfl))
  · rw [List.length_set]
    have e : (l.set k ⟨l[k].key, l[k].data, now + 1⟩).map Rn.at' = (l.map Rn.at').set k (now + 1) := by rw [List.map_set]
    rw [e]
    have r := Row.set (h4.kept k2 (fun j hj e => hap.1.2.2 (e ▸ hj))) k (.int .i64 (now + 1))
    unfold icells at r ⊢
    rw [List.map_set]
    exact r
  · exact (k2.mono (fun _ _ e => .inl e)).trans k3 (fun i _ e => .inr (.inr (.inr (by rw [e]; rfl))))

def RGot (w w' : World) (br : Nat) (quota now : Int) (B : Nat → Prop) (l : List Rn) (key : ByteArray) (e : Ending) : Prop :=
  (∃ (k : Nat) (h : k < l.length), l[k].key = key ∧ e = .returned (.tuple #[.string l[k].data, .bool true]) ∧ RStep w w' br quota B (l.set k ⟨l[k].key, l[k].data, now + 1⟩) (now + 1)) ∨
  (e = .returned (.tuple #[.string ⟨#[]⟩, .bool false]) ∧ (∀ r ∈ l, r.key ≠ key) ∧ RStep w w' br quota B l now)
set_option maxHeartbeats 1000000 in
theorem rget_any {br : Nat} {quota now : Int} {l : List Rn} {vk vd vw : Value} {ck cd cw : Nat} (key : ByteArray) (w : World) (h : RAt w br quota now l vk vd vw ck cd cw) (hlen : l.length ≤ 4096) (hnow : 0 ≤ now ∧ now ≤ 1000000) :
    Calls Try.prog 11 #[.pointer (some ⟨br, 0, none⟩), .string key] w fun e w' => RGot w w' br quota now (RB br vk vd vw) l key e := by
  have HI := Lib.hid (is_any key w h hlen)
  have HH := Lib.hid h
  obtain ⟨hn0, hn1⟩ := hnow
  go_enter Try.func11, Try.ntmps11
  go_wp2_with fail
  refine HI.out.mono ?_
  rintro e w1 ⟨i, rfl, hi, rfl⟩
  rcases hi with ⟨k, hk, rfl, hkey⟩ | ⟨rfl, hno⟩
  · obtain ⟨h1, h2, h3, h4, h5⟩ := h
    rcases h3.2 with ⟨_, h, _⟩ | ⟨gd, curd, rfl, _⟩
    · omega
    rcases h4.2 with ⟨_, h, _⟩ | ⟨gw, curw, rfl, hcw⟩
    · omega
    have hap := HH.out.apart
    have hgb : gw ≠ br := fun e => hap.1.2.2 (by rw [e]; rfl)
    have hgd : gd ≠ br := fun e => hap.1.2.1 (by rw [e]; rfl)
    have hgdw : gd ≠ gw := fun e => hap.2.2 gd rfl (by rw [e]; rfl)
    obtain ⟨hlt, ⟨c0, c1, c2, c3, c4⟩, f0, f1, f2, f3, f4⟩ := block_cells5 h1
    have z1 := texts_get (k := k) h3 (by simpa using hk)
    have z2 := times_get (k := k) h4 (by simpa using hk)
    obtain ⟨_, q1, q2⟩ := h4.there k (by have := hcw.2.1; omega)
    rw [List.getElem_map] at z1 z2
    have hgwl := lt_of_heap hcw.1
    have HK := Lib.hid hkey
    have hki : (k : Int) < (l.length : Int) := by omega
    have hk0 : (0 : Int) ≤ (k : Int) := by omega
    have hm : l.length ≤ 9223372036854775807 := by omega
    clear hkey h1 h2 h3 h4 h5 hap hcw
    go_wp2_with fail
    have k1 : Kept (fun j => j = br) w (w.setCell ⟨br, 3, none⟩ (.int .i64 (now + 1))) := (Kept.refl (fun j => j = br) w).setCell (p := ⟨br, 3, none⟩) (fun _ => rfl) _
    have hb2 := heap_setCell_same w br 3 _ 54 (.int .i64 (now + 1)) HH.out.1
    have z3 := k1.cell z1 (fun e => hgd e)
    have z4 := k1.cell z2 (fun e => hgb e)
    have q3 : (w.setCell ⟨br, 3, none⟩ (.int .i64 (now + 1))).frozen? ⟨gw, k, none⟩ = false := by rw [World.frozen?_setCell]; exact q2
    have HUSED := Lib.hid (HH.out.used k hk)
    have hsz : (w.setCell ⟨br, 3, none⟩ (.int .i64 (now + 1))).heap.size = w.heap.size := by simp [World.setCell]
    generalize w.setCell ⟨br, 3, none⟩ (.int .i64 (now + 1)) = W2 at hb2 z3 z4 q3 HUSED hsz ⊢
    obtain ⟨hlt2, ⟨d0, d1, d2, d3, d4⟩, g0, g1, g2, g3, g4⟩ := block_cells5 hb2
    clear k1 hb2 c0 c1 c2 c3 c4 f0 f1 f2 f3 f4 z1 z2 q1 q2
    go_still_tail 10, (by kernel_rfl)
    go_wp2_with fail
    go_ret2
    exact .inl ⟨k, hk, HK.out, rfl, HUSED.out W2.drew ((Kept.refl _ _).drew)⟩
  · have HN := Lib.hid hno
    clear hno
    go_wp2_with fail
    go_ret2
    exact .inr ⟨rfl, HN.out, RStep.calm HH.out (Kept.refl _ _)⟩
end Go.Proofs.Ytlnhdfdalfoocaa
