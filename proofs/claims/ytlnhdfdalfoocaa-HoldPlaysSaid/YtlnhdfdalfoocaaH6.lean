/- Walks: Drop and Get of the hold. -/
import Derived.Test.YtlnhdfdalfoocaaH5
namespace Go.Proofs.Ytlnhdfdalfoocaa
open Go.RowKit

/-! one step of a hold -/
structure Step (w w' : World) (bh : Nat) (quota : Int) (l : List En) (g : Option Nat) (l' : List En) (g' : Option Nat) : Prop where
  at' : HAt w' bh quota l' g'
  kept : Kept (HW bh g) w w'
  newg : NewG w g g'
  news : ∀ e ∈ l', e ∈ l ∨ ∀ k, e.val.ownBlock = some k → w.heap.size ≤ k
theorem Step.calm {w w' : World} {bh : Nat} {quota : Int} {l : List En} {g : Option Nat} (h : HAt w bh quota l g) (hk : Kept NoB w w') : Step w w' bh quota l g l g :=
  ⟨h.calm hk, hk.of_none, .inl rfl, fun _ he => .inl he⟩
theorem Step.trans {a b c : World} {bh : Nat} {quota : Int} {l l1 l2 : List En} {g g1 g2 : Option Nat} (h : Step a b bh quota l g l1 g1) (k : Step b c bh quota l1 g1 l2 g2) : Step a c bh quota l g l2 g2 := by
  have hs := h.kept.size
  refine ⟨k.at', h.kept.trans k.kept (fun i hi e => ?_), ?_, fun e he => ?_⟩
  · rcases e with e | e
    · exact .inl e
    · rcases h.newg with h1 | ⟨k1, h1, h2⟩
      · exact .inr (h1 ▸ e)
      · rw [h1] at e; cases e; omega
  · rcases k.newg with k1 | ⟨k1, e1, e2⟩
    · rw [k1]; exact h.newg
    · exact .inr ⟨k1, e1, by omega⟩
  · rcases k.news e he with h1 | h1
    · exact h.news e h1
    · exact .inr fun k hk => by have := h1 k hk; omega
theorem Step.then {a b c : World} {bh : Nat} {quota : Int} {l l1 : List En} {g g1 : Option Nat} (h : Step a b bh quota l g l1 g1) (k : Kept NoB b c) : Step a c bh quota l g l1 g1 := h.trans (Step.calm h.at' k)
theorem Step.after {a b c : World} {bh : Nat} {quota : Int} {l l1 : List En} {g g1 : Option Nat} (hh : HAt a bh quota l g) (h : Kept NoB a b) (k : Step b c bh quota l g l1 g1) : Step a c bh quota l g l1 g1 := (Step.calm hh h).trans k

/-! keys -/
def keysOf (l : List En) : List ByteArray := l.map En.key
/-- all but those of a key -/
def oth (l : List En) (key : ByteArray) : List En := l.filter fun e => decide (e.key ≠ key)
theorem oth_none (l : List En) (key : ByteArray) (h : ∀ e ∈ l, e.key ≠ key) : oth l key = l := by
  unfold oth; rw [List.filter_eq_self]; intro e he; simpa using h e he
theorem oth_eraseIdx (l : List En) (key : ByteArray) (k : Nat) (hk : k < l.length) (hkey : l[k].key = key) (hnd : (keysOf l).Nodup) : l.eraseIdx k = oth l key := by
  induction l generalizing k with
  | nil => simp at hk
  | cons a l ih =>
    simp only [keysOf, List.map_cons, List.nodup_cons] at hnd
    cases k with
    | zero =>
      simp only [List.getElem_cons_zero] at hkey
      rw [List.eraseIdx_cons_zero]
      unfold oth
      rw [List.filter_cons_of_neg (by simpa using hkey)]
      exact (oth_none l key (fun e he h => hnd.1 (by rw [hkey, ← h]; exact List.mem_map_of_mem he))).symm
    | succ k =>
      simp only [List.getElem_cons_succ] at hkey
      have hk' : k < l.length := by simpa using hk
      have hne : a.key ≠ key := fun h => hnd.1 (by rw [h, ← hkey]; exact List.mem_map_of_mem (List.getElem_mem hk'))
      rw [List.eraseIdx_cons_succ, ih k hk' hkey hnd.2]
      unfold oth
      rw [List.filter_cons_of_pos (by simpa using hne)]
theorem oth_sub (l : List En) (key : ByteArray) : ∀ e ∈ oth l key, e ∈ l := fun _ he => (List.mem_filter.1 he).1
theorem oth_length (l : List En) (key : ByteArray) : (oth l key).length ≤ l.length := List.length_filter_le _ _

section
variable {bh : Nat} {quota : Int} {l : List En} {g : Option Nat} {w : World}
theorem at_yes (key : ByteArray) (h : HAt w bh quota l g) (hlen : l.length ≤ 4096) (k : Nat) (hk : k < l.length) (hkey : l[k].key = key) (hnd : (keysOf l).Nodup) :
    Calls Try.prog 22 #[.pointer (some ⟨bh, 0, none⟩), .string key] w fun e w' => e = .returned (.int .i64 k) ∧ Kept NoB w w' := by
  refine (at_any bh quota l g key w h hlen).mono ?_
  rintro e w' ⟨hkk, ⟨i, hi, rfl, h1, h2⟩ | ⟨_, h1⟩⟩
  · refine ⟨?_, hkk⟩
    have : i = k := by
      have e1 : (keysOf l)[i]'(by simpa [keysOf] using hi) = (keysOf l)[k]'(by simpa [keysOf] using hk) := by simp [keysOf, h1, hkey]
      exact (List.getElem_inj hnd).1 e1
    rw [this]
  · exact absurd hkey (h1 _ (List.getElem_mem hk))
theorem at_no (key : ByteArray) (h : HAt w bh quota l g) (hlen : l.length ≤ 4096) (hno : ∀ e ∈ l, e.key ≠ key) :
    Calls Try.prog 22 #[.pointer (some ⟨bh, 0, none⟩), .string key] w fun e w' => e = .returned (.int .i64 (-1)) ∧ Kept NoB w w' := by
  refine (at_any bh quota l g key w h hlen).mono ?_
  rintro e w' ⟨hkk, ⟨i, hi, rfl, h1, h2⟩ | ⟨rfl, h1⟩⟩
  · exact absurd h1 (hno _ (List.getElem_mem hi))
  · exact ⟨rfl, hkk⟩
end

/-! Drop -/
set_option maxHeartbeats 400000 in
theorem drop_nil (key : ByteArray) (w : World) :
    Calls Try.prog 12 #[.pointer none, .string key] w fun e w' => e = .returned (.bool false) ∧ w = w' := by
  go_enter Try.func12, Try.ntmps12
  go_wp2
  go_ret
  exact ⟨rfl, rfl⟩
set_option maxHeartbeats 400000 in
theorem drop_no (bh : Nat) (quota : Int) (l : List En) (g : Option Nat) (key : ByteArray) (w : World) (h : HAt w bh quota l g) (hlen : l.length ≤ 4096) (hno : ∀ e ∈ l, e.key ≠ key) :
    Calls Try.prog 12 #[.pointer (some ⟨bh, 0, none⟩), .string key] w fun e w' => e = .returned (.bool false) ∧ Kept NoB w w' := by
  have HA := Lib.hid (at_no key h hlen hno)
  clear h hno
  go_enter Try.func12, Try.ntmps12
  go_wp2_with (go_at_call 22; refine HA.out.mono ?_; rintro e w1 ⟨rfl, k1⟩)
  go_ret
  exact ⟨rfl, k1⟩
set_option maxHeartbeats 400000 in
theorem drop_yes (bh : Nat) (quota : Int) (l : List En) (g : Option Nat) (key : ByteArray) (w : World) (h : HAt w bh quota l g) (hlen : l.length ≤ 4096) (k : Nat) (hk : k < l.length) (hkey : l[k].key = key) (hnd : (keysOf l).Nodup) :
    Calls Try.prog 12 #[.pointer (some ⟨bh, 0, none⟩), .string key] w fun e w' => e = .returned (.bool true) ∧ Step w w' bh quota l g (oth l key) g := by
  have HA := Lib.hid (at_yes key h hlen k hk hkey hnd)
  have HE := Lib.hid (oth_eraseIdx l key k hk hkey hnd)
  have HH := Lib.hid h
  have HO := Lib.hid (fun (W : World) (hW : HAt W bh quota l g) => out_any bh quota l g k W hW hk)
  clear h hnd hkey
  go_enter Try.func12, Try.ntmps12
  go_wp2_with (go_at_call 22; refine HA.out.mono ?_; rintro e w1 ⟨rfl, k1⟩)
  go_wp2_with (go_at_call 23; refine (HO.out _ (HH.out.calm k1)).mono ?_; rintro e w2 ⟨rfl, h2, k2⟩)
  go_ret
  refine ⟨rfl, Step.after HH.out k1 ⟨by rw [← HE.out]; exact h2, k2, .inl rfl, fun e he => .inl (oth_sub l key e he)⟩⟩

/-! Get -/
set_option maxHeartbeats 400000 in
theorem get_nil (key : ByteArray) (w : World) :
    Calls Try.prog 10 #[.pointer none, .string key] w fun e w' => e = .returned (.tuple #[.slice none 0 0, .bool false]) ∧ w = w' := by
  go_enter Try.func10, Try.ntmps10
  go_wp2
  go_ret2
  exact ⟨rfl, rfl⟩
set_option maxHeartbeats 400000 in
theorem get_no (bh : Nat) (quota : Int) (l : List En) (g : Option Nat) (key : ByteArray) (w : World) (h : HAt w bh quota l g) (hlen : l.length ≤ 4096) (hno : ∀ e ∈ l, e.key ≠ key) :
    Calls Try.prog 10 #[.pointer (some ⟨bh, 0, none⟩), .string key] w fun e w' => e = .returned (.tuple #[.slice none 0 0, .bool false]) ∧ Kept NoB w w' := by
  have HA := Lib.hid (at_no key h hlen hno)
  clear h hno
  go_enter Try.func10, Try.ntmps10
  go_wp2_with (go_at_call 22; refine HA.out.mono ?_; rintro e w1 ⟨rfl, k1⟩)
  go_ret2
  exact ⟨rfl, k1⟩

theorem Held.src {w : World} {e : En} (h : Held w e) : Src w 1 e.val e.data.length (bcells e.data) := Row.src h

theorem HAt.held {w w' : World} {bh : Nat} {quota : Int} {l : List En} {g : Option Nat} (h : HAt w bh quota l g) (hk : Kept (HW bh g) w w') {x : En} (hx : x ∈ l) : Held w' x := by
  have hap := h.apart.2 x hx
  obtain ⟨_, _, _, _, _, he⟩ := h
  refine (he x hx).kept hk (fun k h1 h2 => ?_)
  rcases h2 with h2 | h2
  · exact hap.1 (h2 ▸ h1)
  · exact hap.2 k h2 h1

theorem Step.push {w w2 W w3 : World} {bh : Nat} {quota : Int} {l lo : List En} {g g2 g3 : Option Nat} {x : En} (S : Step w w2 bh quota l g lo g2) (K : Kept NoB w2 W) (h3 : HAt w3 bh quota (lo ++ [x]) g3) (k3 : Kept (HW bh g2) W w3) (n3 : NewG W g2 g3)
    (hx : x ∈ l ∨ ∀ k, x.val.ownBlock = some k → w.heap.size ≤ k) : Step w w3 bh quota l g (lo ++ [x]) g3 := by
  have hs := S.kept.size
  have hs2 := K.size
  have k' : Kept (HW bh g2) w2 w3 := K.of_none.trans k3 (fun _ _ h => h)
  refine ⟨h3, S.kept.trans k' (fun i hi e => ?_), ?_, fun e he => ?_⟩
  · rcases e with e | e
    · exact .inl e
    · rcases S.newg with h1 | ⟨k1, h1, h2⟩
      · exact .inr (h1 ▸ e)
      · rw [h1] at e; cases e; omega
  · rcases n3 with k1 | ⟨k1, e1, e2⟩
    · rw [k1]; exact S.newg
    · exact .inr ⟨k1, e1, by omega⟩
  · rcases List.mem_append.1 he with h | h
    · exact S.news e h
    · simp only [List.mem_singleton] at h; subst h; exact hx
/-- what Get leaves where the key is held -/
def GetPost (bh : Nat) (quota : Int) (l : List En) (g : Option Nat) (lo : List En) (x : En) (w : World) (e : Ending) (w' : World) : Prop :=
  ∃ ao, e = .returned (.tuple #[.slice ao x.data.length x.data.length, .bool true]) ∧ Row w' 5 1 (.slice ao x.data.length x.data.length) x.data.length x.data.length (bcells x.data) ∧
    ∃ g', Step w w' bh quota l g (lo ++ [x]) g' ∧ ∀ k, (Value.slice ao x.data.length x.data.length).ownBlock = some k → w.heap.size ≤ k ∧ ¬ HB bh g' (lo ++ [x]) k
theorem get_done {w w3 w4 : World} {bh : Nat} {quota : Int} {l lo : List En} {g g3 : Option Nat} {x : En} {ao : Option Addr} {cap : Nat} (S : Step w w3 bh quota l g (lo ++ [x]) g3) (K : Kept NoB w3 w4)
    (hr : Row w4 5 1 (.slice ao x.data.length x.data.length) x.data.length x.data.length (bcells x.data)) (hf : ∀ k, (Value.slice ao x.data.length cap).ownBlock = some k → w3.heap.size ≤ k) :
    GetPost bh quota l g lo x w (.returned (.tuple #[.slice ao x.data.length x.data.length, .bool true])) w4 := by
  refine ⟨ao, rfl, hr, g3, S.then K, fun k hk => ?_⟩
  have h1 := hf k (by rw [← hk]; cases ao <;> rfl)
  have h2 := S.kept.size
  exact ⟨by omega, fun h => by have := S.at'.lt k h; omega⟩

set_option maxHeartbeats 1000000 in
theorem get_yes (bh : Nat) (quota : Int) (l : List En) (g : Option Nat) (key : ByteArray) (w : World) (h : HAt w bh quota l g) (hlen : l.length ≤ 4095) (k : Nat) (hk : k < l.length) (hkey : l[k].key = key) (hnd : (keysOf l).Nodup) (hd : l[k].data.length ≤ 32768) :
    Calls Try.prog 10 #[.pointer (some ⟨bh, 0, none⟩), .string key] w fun e w' => GetPost bh quota l g (oth l key) l[k] w e w' := by
  have HA := Lib.hid (at_yes key h (by omega) k hk hkey hnd)
  have HE := Lib.hid (oth_eraseIdx l key k hk hkey hnd)
  have HH := Lib.hid h
  have HO := Lib.hid (fun (W : World) (hW : HAt W bh quota l g) => out_any bh quota l g k W hW hk)
  have hmem : l[k] ∈ l := List.getElem_mem hk
  have HM := Lib.hid hmem
  have hle : (oth l key).length ≤ 4095 := Nat.le_trans (oth_length l key) hlen
  have HSUB := Lib.hid (oth_sub l key)
  rw [HE.out] at HO
  unfold En.arr at HO
  clear h hnd hkey hmem HE
  generalize l[k] = x at HO HM hd ⊢
  generalize oth l key = lo at HO hle HSUB ⊢
  go_enter Try.func10, Try.ntmps10
  go_wp2_with (go_at_call 22; refine HA.out.mono ?_; rintro e w1 ⟨rfl, k1⟩)
  go_wp2_with (go_at_call 23; refine (HO.out _ (HH.out.calm k1)).mono ?_; rintro e w2 ⟨rfl, h2, k2⟩)
  have hx2 : Held w2 x := HH.out.held (k1.of_none.trans k2 (fun _ _ h => h)) HM.out
  have HS2 := Lib.hid (Step.after HH.out k1 (⟨h2, k2, .inl rfl, fun e he => .inl (HSUB.out e he)⟩ : Step w1 w2 bh quota l g lo g))
  have HL := Lib.hid (fun (W : World) (hW : Kept NoB w2 W) => (last_any bh quota lo g x W (h2.calm hW) (hx2.kept hW (fun _ _ h => h)) (by omega)))
  unfold En.arr at HL
  have hn2 := heap_alloc_new w2 (.cells x.arr 57)
  unfold En.arr at hn2
  obtain ⟨hlt2, d0, d1, f0, f1⟩ := block_cells2 hn2
  have hbn := Lib.hid (h2.lt)
  clear hx2 h2 k1 k2 hn2
  go_wp2_with fail
  go_region_with ((go_at_call 24; refine (HL.out _ (by repeat (first | with_reducible exact Kept.refl _ _ | with_reducible refine Kept.alloc ?_ _ | with_reducible refine Kept.drewN ?_ _ | with_reducible refine Kept.drew ?_))).mono ?_; rintro e w3 ⟨rfl, g3, h3, k3, n3⟩))
  all_goals
    have hn3 := k3.heap (((Kept.refl NoB _).drew).heap (heap_alloc_new w2 (.cells #[.string x.key, .slice x.ao x.data.length x.cap] 57)) (fun h => h)) (fun h => by
      rcases h with h | h
      · have := hbn.out bh (.inl rfl); omega
      · have := hbn.out _ (.inr (.inl h)); omega)
    have HS3 := Lib.hid (Step.push HS2.out (show Kept NoB w2 _ from (by repeat (first | with_reducible exact Kept.refl _ _ | with_reducible refine Kept.alloc ?_ _ | with_reducible refine Kept.drewN ?_ _ | with_reducible refine Kept.drew ?_))) h3 k3 n3 (.inl HM.out))
    obtain ⟨hlt3, e0, e1, q0, q1⟩ := block_cells2 hn3
    have HC := Lib.hid (clone_any x.val x.data w3 (Held.src (by obtain ⟨_, _, _, _, _, he⟩ := h3; exact he x (by simp))) hd)
    unfold En.val at HC
    clear h3 k3 n3 hn3 d0 d1 f0 f1
    go_wp2_with (go_at_call 26; refine HC.out.mono ?_; rintro e w4 ⟨v', rfl, cap', hf⟩; obtain ⟨⟨ao, rfl⟩, hrow, hk4, hfr⟩ := hf; have HF := Lib.hid hfr; have HK4 := Lib.hid hk4; have HR := Lib.hid hrow; clear hfr hk4 hrow)
    go_wp2_with (go_at_call 25; refine (clipb_any _ _ _ _ _ HR.out hd).mono ?_; rintro e w5 ⟨rfl, rfl, hr5⟩; have HR5 := Lib.hid hr5; clear hr5)
    go_ret2
    exact get_done HS3.out HK4.out HR5.out HF.out
end Go.Proofs.Ytlnhdfdalfoocaa
