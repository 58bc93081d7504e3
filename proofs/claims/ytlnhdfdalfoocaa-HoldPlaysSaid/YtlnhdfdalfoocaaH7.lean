/- Walks: Put of the hold. -/
import Derived.Test.YtlnhdfdalfoocaaH6
import Derived.Deep.LoopGhost
import Derived.Deep.RegionHeld3
namespace Go.Proofs.Ytlnhdfdalfoocaa
open Go.RowKit

/-- is the key held? -/
def has (l : List En) (key : ByteArray) : Bool := l.any fun e => decide (e.key = key)
theorem has_cases (l : List En) (key : ByteArray) : (has l key = true ∧ ∃ (k : Nat) (h : k < l.length), l[k].key = key) ∨ (has l key = false ∧ ∀ e ∈ l, e.key ≠ key) := by
  by_cases h : ∃ e ∈ l, e.key = key
  · left
    obtain ⟨e, he, hk⟩ := h
    obtain ⟨k, hk1, hk2⟩ := List.getElem_of_mem he
    exact ⟨by unfold has; rw [List.any_eq_true]; exact ⟨e, he, by simpa using hk⟩, k, hk1, by rw [hk2]; exact hk⟩
  · right
    refine ⟨?_, fun e he hk => h ⟨e, he, hk⟩⟩
    unfold has
    rw [List.any_eq_false]
    intro e he
    simpa using fun hk => h ⟨e, he, hk⟩

theorem drop_any (bh : Nat) (quota : Int) (l : List En) (g : Option Nat) (key : ByteArray) (w : World) (h : HAt w bh quota l g) (hlen : l.length ≤ 4096) (hnd : (keysOf l).Nodup) :
    Calls Try.prog 12 #[.pointer (some ⟨bh, 0, none⟩), .string key] w fun e w' => e = .returned (.bool (has l key)) ∧ Step w w' bh quota l g (oth l key) g := by
  rcases has_cases l key with ⟨h1, k, hk, hkey⟩ | ⟨h1, hno⟩
  · rw [h1]; exact drop_yes bh quota l g key w h hlen k hk hkey hnd
  · rw [h1, oth_none l key hno]
    exact (drop_no bh quota l g key w h hlen hno).mono fun _ _ ⟨he, hk⟩ => ⟨he, Step.calm h hk⟩

/-- those that are used longest ago go, till the others fit -/
def evict (lim : Int) : List En → List En
  | [] => []
  | e :: r => if lim < (total (e :: r) : Int) then evict lim r else e :: r
theorem evict_fits (lim : Int) (l : List En) (h : (total l : Int) ≤ lim) : evict lim l = l := by
  cases l with
  | nil => rfl
  | cons e r => unfold evict; rw [if_neg (by omega)]
theorem evict_more (lim : Int) (l : List En) (h : lim < (total l : Int)) (h0 : 0 ≤ lim) : evict lim l = evict lim (l.eraseIdx 0) ∧ 0 < l.length := by
  cases l with
  | nil => simp [total] at h; omega
  | cons e r => exact ⟨by conv => lhs; unfold evict
                          rw [if_pos h]; rfl, by simp⟩
theorem total_erase0 (l : List En) : total (l.eraseIdx 0) ≤ total l := by
  cases l with
  | nil => simp
  | cons e r => simp [total]
theorem total_oth (l : List En) (key : ByteArray) : total (oth l key) ≤ total l := by
  induction l with
  | nil => simp [oth]
  | cons e r ih =>
    unfold oth at ih ⊢
    rw [List.filter_cons]
    split <;> simp [total] at ih ⊢ <;> omega

set_option maxHeartbeats 400000 in
theorem put_nil (key : ByteArray) (v : Value) (w : World) :
    Calls Try.prog 14 #[.pointer none, .string key, v] w fun e w' => e = .returned (.bool false) ∧ w = w' := by
  go_enter Try.func14, Try.ntmps14
  go_wp2
  go_ret
  exact ⟨rfl, rfl⟩

set_option maxHeartbeats 1000000 in
theorem put_big (bh : Nat) (quota : Int) (l : List En) (g : Option Nat) (key : ByteArray) (ao : Option Addr) (n c : Nat) (w : World) (h : HAt w bh quota l g) (hlen : l.length ≤ 4096) (hnd : (keysOf l).Nodup) (hbig : quota < (n : Int)) :
    Calls Try.prog 14 #[.pointer (some ⟨bh, 0, none⟩), .string key, .slice ao n c] w fun e w' => e = .returned (.bool false) ∧ Step w w' bh quota l g (oth l key) g := by
  have HD := Lib.hid (drop_any bh quota l g key w h hlen hnd)
  clear h hnd
  go_enter Try.func14, Try.ntmps14
  go_wp2_with (go_at_call 12; refine HD.out.mono ?_; rintro e w1 ⟨rfl, s1⟩; have HS := Lib.hid s1; obtain ⟨_, _, hb1, _, _, _⟩ := s1.at'; obtain ⟨hlt1, c0, c1, f0, f1⟩ := block_cells2 hb1; clear s1 hb1)
  go_ret
  exact ⟨rfl, HS.out⟩

theorem src_kept {S : Nat → Prop} {w w' : World} {size : Nat} {ao : Option Addr} {m m' c : Nat} {news : List Value} (h : Src w size (.slice ao m' c) m news) (hk : Kept S w w') (hs : ∀ a, ao = some a → 0 < m → ¬ S a.block) : Src w' size (.slice ao m' c) m news := by
  rcases Nat.eq_zero_or_pos m with h0 | h0
  · obtain ⟨hl, ao', c', he, hnone, hc⟩ := h
    cases he
    have hn : news = [] := List.eq_nil_of_length_eq_zero (by rw [hl, h0, Nat.zero_mul])
    exact ⟨hl, ao, c, rfl, hnone, fun a ha j u hu => by rw [hn] at hu; simp at hu⟩
  · exact h.kept hk (fun a ha => hs a ha h0)
theorem cell_then {wr W W' : World} {b : Nat} {v : Value} (h : W.cell? ⟨b, 1, none⟩ = some v ∧ Kept NoB wr W) (k : Kept NoB W W') : W'.cell? ⟨b, 1, none⟩ = some v ∧ Kept NoB wr W' :=
  ⟨k.cell h.1 (fun h => h), h.2.then k⟩
set_option maxHeartbeats 2000000 in
theorem put_fits (bh : Nat) (quota : Int) (l : List En) (g : Option Nat) (key : ByteArray) (ao : Option Addr) (c : Nat) (data : List UInt8) (w : World) (h : HAt w bh quota l g) (hlen : l.length ≤ 4095) (hnd : (keysOf l).Nodup) (hq : quota ≤ 32768) (htot : total l ≤ 32768)
    (hfit : (data.length : Int) ≤ quota) (hsrc : Src w 1 (.slice ao data.length c) data.length (bcells data)) (hoff : ∀ a, ao = some a → 0 < data.length → ¬ HW bh g a.block) :
    Calls Try.prog 14 #[.pointer (some ⟨bh, 0, none⟩), .string key, .slice ao data.length c] w fun e w' => e = .returned (.bool true) ∧
      ∃ x g', x.key = key ∧ x.data = data ∧ (∀ k, x.val.ownBlock = some k → w.heap.size ≤ k) ∧ Step w w' bh quota l g (evict (quota - data.length) (oth l key) ++ [x]) g' := by
  have HD := Lib.hid (drop_any bh quota l g key w h (by omega) hnd)
  have HSRC := Lib.hid hsrc
  have HOFF := Lib.hid hoff
  have hlo := oth_length l key
  have hto := total_oth l key
  clear h hnd hsrc hoff
  go_enter Try.func14, Try.ntmps14
  go_wp2_with (go_at_call 12; refine HD.out.mono ?_; rintro e w1 ⟨rfl, s1⟩; have HS := Lib.hid s1; obtain ⟨_, _, hb1, _, _, _⟩ := s1.at'; obtain ⟨hlt1, c0, c1, f0, f1⟩ := block_cells2 hb1; clear s1 hb1)
  go_loopg [28] (oth l key).length (fun gk s28 wr => ∃ lc gc, Hid (Step w wr bh quota l g lc gc ∧ evict (quota - data.length) lc = evict (quota - data.length) (oth l key)) ∧ lc.length = gk ∧ lc.length ≤ 4095 ∧ total lc ≤ 32768)
  case atStart => exact ⟨oth l key, g, Lib.hid ⟨HS.out, rfl⟩, rfl, by omega, by omega⟩
  case round =>
    obtain ⟨lc, gc, HC, hgk, hlc, htc⟩ := hrel
    obtain ⟨vr, capr, hbr, _, _, _⟩ := HC.out.1.at'
    obtain ⟨hltr, r0, r1, q0, q1⟩ := block_cells2 hbr
    have R1 := Lib.hid r1
    have HU := Lib.hid (fun (W : World) (hW : Kept NoB wr W) => (used_any bh quota lc gc (by omega) W (HC.out.1.at'.calm hW) (by omega)))
    have hwr : IntKind.i64.wrap (quota - (data.length : Int)) = quota - (data.length : Int) := IntWalk.i64_in _ ⟨by omega, by omega⟩
    have HK0 : Hid (wr.drew.cell? ⟨bh, 1, none⟩ = some (.int .i64 quota) ∧ Kept NoB wr wr.drew) := Lib.hid ⟨r1, (Kept.refl _ _).drew⟩
    clear hbr r0 q0 q1
    by_cases hmore : quota - (data.length : Int) < (total lc : Int)
    · have HM := Lib.hid (evict_more _ lc hmore (by omega))
      have HOUT := Lib.hid (fun (W : World) (hW : HAt W bh quota lc gc) => (out_any bh quota lc gc 0 W hW HM.out.2).mono (R' := fun e w' => ∃ v, e = .returned v ∧ HAt w' bh quota (lc.eraseIdx 0) gc ∧ Kept (HW bh gc) W w') fun _ _ ⟨he, h1, h2⟩ => ⟨_, he, h1, h2⟩)
      go_wp2_with fail
      go_region_held3 (fun W => W.cell? ⟨bh, 1, none⟩ = some (.int .i64 quota) ∧ Kept NoB wr W)
        (first | (with_reducible assumption) | (exact HK0.out) | (exact cell_then (by with_reducible assumption) kc))
        (first | (go_at_call 16; refine (HU.out _ (And.right (by with_reducible assumption))).mono ?_; rintro e w7 ⟨rfl, kc⟩))
      have hk7 : Kept NoB wr w7 := And.right (by assumption)
      have H7 := Lib.hid (Step.calm HC.out.1.at' hk7)
      go_wp2_with (go_at_call 23; refine (HOUT.out _ H7.out.at').mono ?_; rintro e w8 ⟨v8, rfl, h8, k8⟩)
      go_roundg (lc.length - 1)
      case measure => have := HM.out.2; omega
      case rel =>
        refine ⟨lc.eraseIdx 0, gc, Lib.hid ⟨(HC.out.1.trans H7.out).trans ⟨h8, k8, .inl rfl, fun e he => .inl (List.mem_of_mem_eraseIdx he)⟩, HM.out.1.symm.trans HC.out.2⟩, ?_, ?_, ?_⟩
        · rw [List.length_eraseIdx, if_pos HM.out.2]
        · rw [List.length_eraseIdx, if_pos HM.out.2]; omega
        · exact Nat.le_trans (total_erase0 lc) htc
    · have HM := Lib.hid (evict_fits (quota - (data.length : Int)) lc (by omega))
      have HS2 := Lib.hid (fun (W : World) (hW : Kept NoB wr W) => src_kept HSRC.out (HC.out.1.kept.trans hW.of_none (fun _ _ h => h)) HOFF.out)
      go_wp2_with fail
      go_region_held3 (fun W => W.cell? ⟨bh, 1, none⟩ = some (.int .i64 quota) ∧ Kept NoB wr W)
        (first | (with_reducible assumption) | (exact HK0.out) | (exact cell_then (by with_reducible assumption) kc))
        (first | (go_at_call 16; refine (HU.out _ (And.right (by with_reducible assumption))).mono ?_; rintro e w7 ⟨rfl, kc⟩))
      have hk7 : Kept NoB wr w7 := And.right (by assumption)
      have H7 := Lib.hid (Step.calm HC.out.1.at' hk7)
      have HCL := Lib.hid (fun (W : World) (hW : Kept NoB w7 W) => clone_any (.slice ao data.length c) data W (HS2.out W (hk7.then hW)) (by omega))
      have HL := Lib.hid (fun (W : World) (hW : Kept NoB w7 W) (ao5 : Option Addr) (cap5 : Nat) (hh : Row W 5 1 (.slice ao5 data.length cap5) data.length cap5 (bcells data)) => last_any bh quota lc gc ⟨key, data, ao5, cap5⟩ W (H7.out.at'.calm hW) hh (by omega))
      unfold En.arr at HL
      go_wp2_with fail
      go_region_with (first
        | (go_at_call 26; refine (HCL.out _ (by repeat (first | with_reducible exact Kept.refl _ _ | with_reducible refine Kept.alloc ?_ _ | with_reducible refine Kept.drewN ?_ _ | with_reducible refine Kept.drew ?_))).mono ?_; rintro e w8 ⟨v8, rfl, cap8, hf8⟩; obtain ⟨⟨ao8, rfl⟩, hrow8, hk8, hfr8⟩ := hf8)
        | (go_at_call 24; refine (HL.out _ ((Kept.drew (Kept.refl _ _)).then hk8) _ _ hrow8).mono ?_; rintro e w9 ⟨rfl, g9, h9, k9, n9⟩))
      all_goals
        have HF8 := Lib.hid hfr8
        have HLAST := Lib.hid (Step.push (HC.out.1.trans H7.out) ((Kept.drew (Kept.refl _ _)).then hk8) h9 k9 n9 (.inr fun k hk => Nat.le_trans (Nat.le_trans (HC.out.1.kept.size) hk7.size) (HF8.out k (by rw [← hk]; rfl))))
        clear hfr8 h9 k9 n9 hrow8 hk8
        go_wp2_with fail
        go_ret
        exact ⟨rfl, ⟨key, data, ao8, cap8⟩, g9, rfl, rfl, fun k hk => Nat.le_trans (Nat.le_trans (HC.out.1.kept.size) hk7.size) (HF8.out k (by rw [← hk]; rfl)), by rw [← HC.out.2, HM.out]; exact HLAST.out⟩
end Go.Proofs.Ytlnhdfdalfoocaa
