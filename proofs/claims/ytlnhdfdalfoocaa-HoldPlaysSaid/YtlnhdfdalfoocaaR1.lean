/- Walks of the reference: New, Is, Used, oldest; what the reference's hold is in memory. -/
import Derived.Test.YtlnhdfdalfoocaaH9
namespace Go.Proofs.Ytlnhdfdalfoocaa
open Go.RowKit

/-- an entry of the reference: its key, its bytes as a text, when it was used -/
structure Rn where
  key : ByteArray
  data : ByteArray
  at' : Int
def icells (l : List Int) : List Value := l.map (Value.int .i64)
def RAt (w : World) (br : Nat) (quota now : Int) (l : List Rn) (vk vd vw : Value) (ck cd cw : Nat) : Prop :=
  w.heap[br]? = some (.cells #[vk, vd, vw, .int .i64 now, .int .i64 quota] 54 (0, 0)) ∧ Row w 9 1 vk l.length ck (kcells (l.map Rn.key)) ∧ Row w 9 1 vd l.length cd (kcells (l.map Rn.data)) ∧ Row w 3 1 vw l.length cw (icells (l.map Rn.at')) ∧
    ∀ k, vk.ownBlock = some k → vd.ownBlock ≠ some k
def RB (br : Nat) (vk vd vw : Value) : Nat → Prop := fun k => k = br ∨ vk.ownBlock = some k ∨ vd.ownBlock = some k ∨ vw.ownBlock = some k
theorem RAt.kept {S : Nat → Prop} {w w' : World} {br : Nat} {quota now : Int} {l : List Rn} {vk vd vw : Value} {ck cd cw : Nat} (h : RAt w br quota now l vk vd vw ck cd cw) (hk : Kept S w w') (hS : ∀ k, RB br vk vd vw k → ¬ S k) : RAt w' br quota now l vk vd vw ck cd cw := by
  obtain ⟨h1, h2, h3, h4, h5⟩ := h
  exact ⟨hk.heap h1 (hS _ (.inl rfl)), h2.kept hk (fun k hk' => hS k (.inr (.inl hk'))), h3.kept hk (fun k hk' => hS k (.inr (.inr (.inl hk')))), h4.kept hk (fun k hk' => hS k (.inr (.inr (.inr hk')))), h5⟩
theorem RAt.calm {w w' : World} {br : Nat} {quota now : Int} {l : List Rn} {vk vd vw : Value} {ck cd cw : Nat} (h : RAt w br quota now l vk vd vw ck cd cw) (hk : Kept NoB w w') : RAt w' br quota now l vk vd vw ck cd cw := h.kept hk (fun _ _ h => h)
theorem RAt.lt {w : World} {br : Nat} {quota now : Int} {l : List Rn} {vk vd vw : Value} {ck cd cw : Nat} (h : RAt w br quota now l vk vd vw ck cd cw) : ∀ k, RB br vk vd vw k → k < w.heap.size := by
  obtain ⟨h1, h2, h3, h4, h5⟩ := h
  rintro k (rfl | hk | hk | hk)
  · exact lt_of_heap h1
  · exact h2.lt k hk
  · exact h3.lt k hk
  · exact h4.lt k hk
theorem RAt.apart {w : World} {br : Nat} {quota now : Int} {l : List Rn} {vk vd vw : Value} {ck cd cw : Nat} (h : RAt w br quota now l vk vd vw ck cd cw) :
    (vk.ownBlock ≠ some br ∧ vd.ownBlock ≠ some br ∧ vw.ownBlock ≠ some br) ∧ (∀ k, vk.ownBlock = some k → vw.ownBlock ≠ some k) ∧ (∀ k, vd.ownBlock = some k → vw.ownBlock ≠ some k) := by
  obtain ⟨h1, h2, h3, h4, h5⟩ := h
  exact ⟨⟨not_own h1 (by decide) h2, not_own h1 (by decide) h3, not_own h1 (by decide) h4⟩, rows_apart (by decide) h2 h4, rows_apart (by decide) h3 h4⟩
theorem block_cells5 {w : World} {b : Nat} {x0 x1 x2 x3 x4 : Value} {t : TypeId} (h : w.heap[b]? = some (.cells #[x0, x1, x2, x3, x4] t (0, 0))) :
    b < w.heap.size ∧ (w.cell? ⟨b, 0, none⟩ = some x0 ∧ w.cell? ⟨b, 1, none⟩ = some x1 ∧ w.cell? ⟨b, 2, none⟩ = some x2 ∧ w.cell? ⟨b, 3, none⟩ = some x3 ∧ w.cell? ⟨b, 4, none⟩ = some x4) ∧
    (w.frozen? ⟨b, 0, none⟩ = false ∧ w.frozen? ⟨b, 1, none⟩ = false ∧ w.frozen? ⟨b, 2, none⟩ = false ∧ w.frozen? ⟨b, 3, none⟩ = false ∧ w.frozen? ⟨b, 4, none⟩ = false) :=
  ⟨lt_of_heap h, ⟨by rw [cell_of_row w b 0 _ t _ h]; rfl, by rw [cell_of_row w b 1 _ t _ h]; rfl, by rw [cell_of_row w b 2 _ t _ h]; rfl, by rw [cell_of_row w b 3 _ t _ h]; rfl, by rw [cell_of_row w b 4 _ t _ h]; rfl⟩,
    frozen_of_row w b 0 _ t h, frozen_of_row w b 1 _ t h, frozen_of_row w b 2 _ t h, frozen_of_row w b 3 _ t h, frozen_of_row w b 4 _ t h⟩
theorem times_get {w : World} {g n cap k : Nat} {l : List Int} (hr : Row w 3 1 (.slice (some ⟨g, 0, none⟩) n cap) n cap (icells l)) (hk : k < l.length) : w.cell? ⟨g, k, none⟩ = some (.int .i64 l[k]) := by
  obtain ⟨_, ao, c, he, _, hc⟩ := hr.srcFrom 0 cap
  cases he
  have h := hc _ rfl k (.int .i64 l[k]) (by rw [Nat.zero_mul, List.drop_zero]; simp [icells, List.getElem?_eq_getElem hk])
  rw [addr_add] at h
  simpa using h

set_option maxHeartbeats 400000 in
theorem rnew_any (n : Int) (w : World) :
    Calls Try.prog 9 #[.int .i64 n] w fun e w' => e = .returned (.pointer (some ⟨w.heap.size, 0, none⟩)) ∧ w.alloc (.cells #[.slice none 0 0, .slice none 0 0, .slice none 0 0, .int .i64 0, .int .i64 (clamp n)] 54) = w' := by
  by_cases h0 : n < 0
  · have e : clamp n = 0 := by unfold clamp; rw [if_pos h0]
    rw [e]; clear e
    go_enter Try.func9, Try.ntmps9
    go_wp2
    go_ret
    exact ⟨rfl, rfl⟩
  · by_cases h1 : 32768 < n
    · have e : clamp n = 32768 := by unfold clamp; rw [if_neg h0, if_pos h1]
      rw [e]; clear e
      go_enter Try.func9, Try.ntmps9
      go_wp2
      go_ret
      exact ⟨rfl, rfl⟩
    · have e : clamp n = n := by unfold clamp; rw [if_neg h0, if_neg h1]
      rw [e]; clear e
      go_enter Try.func9, Try.ntmps9
      go_wp2
      go_ret
      exact ⟨rfl, rfl⟩

/-- where a key is: its first place, or below 0 -/
def IsAt (l : List Rn) (key : ByteArray) (i : Int) : Prop := (∃ (k : Nat) (h : k < l.length), i = k ∧ l[k].key = key) ∨ (i = -1 ∧ ∀ r ∈ l, r.key ≠ key)
def IsPost (l : List Rn) (key : ByteArray) (w : World) (e : Ending) (w' : World) : Prop := ∃ i, e = .returned (.int .i64 i) ∧ IsAt l key i ∧ w = w'
set_option maxHeartbeats 1000000 in
theorem is_any {br : Nat} {quota now : Int} {l : List Rn} {vk vd vw : Value} {ck cd cw : Nat} (key : ByteArray) (w : World) (h : RAt w br quota now l vk vd vw ck cd cw) (hlen : l.length ≤ 4096) :
    Calls Try.prog 27 #[.pointer (some ⟨br, 0, none⟩), .string key] w (IsPost l key w) := by
  obtain ⟨h1, h2, h3, h4, h5⟩ := h
  obtain ⟨ak, rfl⟩ := h2.form
  obtain ⟨hlt, ⟨c0, c1, c2, c3, c4⟩, f0, f1, f2, f3, f4⟩ := block_cells5 h1
  clear h1 h3 h4 h5
  go_enter Try.func27, Try.ntmps27
  go_wp2_with fail
  go_loop [5] (fun i => ∃ k : Nat, k ≤ l.length ∧ i = .int .i64 k ∧ ∀ r ∈ l.take k, r.key ≠ key) (fun i => l.length - (intOf i).toNat)
  case atStart => exact ⟨0, Nat.zero_le _, rfl, by simp⟩
  case round =>
    obtain ⟨k, hk, rfl, hno⟩ := hrel
    have HN := Lib.hid hno
    clear hno
    by_cases hkl : k < l.length
    · rcases h2.2 with ⟨_, h, _⟩ | ⟨g1, cur1, hv1, _⟩
      · omega
      cases hv1
      have z0 := texts_get (k := k) h2 (by simpa using hkl)
      rw [List.getElem_map] at z0
      have HT := Lib.hid (List.take_succ_eq_append_getElem hkl)
      obtain ⟨x, hx⟩ : ∃ x, l[k] = x := ⟨_, rfl⟩
      rw [hx] at z0 HT
      have HX := Lib.hid hx
      have hti : (k : Int) < (l.length : Int) := by omega
      clear hx h2
      by_cases hxk : x.key = key
      · have hb : (x.key.toList == key.toList) = true := by rw [hxk]; simp
        have HK := Lib.hid hxk
        clear hxk
        go_wp2_with fail
        go_ret
        exact ⟨k, rfl, .inl ⟨k, hkl, rfl, by rw [HX.out]; exact HK.out⟩, rfl⟩
      · have hb : (x.key.toList == key.toList) = false := (str_ne _ _).2 hxk
        have HK := Lib.hid hxk
        clear hxk
        go_wp2_with fail
        go_round
        case rel =>
          refine ⟨k + 1, by omega, by go_num, ?_⟩
          rw [HT.out]
          intro r hr
          rcases List.mem_append.1 hr with h | h
          · exact HN.out r h
          · simp only [List.mem_singleton] at h; subst h; exact HK.out
        case measure => simp [intOf]; omega
    · have hke : k = l.length := by omega
      go_wp2_with fail
      go_ret
      exact ⟨-1, rfl, .inr ⟨rfl, by have h := HN.out; rw [hke, List.take_length] at h; exact h⟩, rfl⟩

/-- all bytes -/
def rtot (l : List Rn) : Nat := (l.map fun r => r.data.size).sum
theorem rtot_take (l : List Rn) (k : Nat) (h : k < l.length) : rtot (l.take (k + 1)) = rtot (l.take k) + l[k].data.size := by
  rw [List.take_succ_eq_append_getElem h]; unfold rtot; rw [List.map_append, List.sum_append]; simp
theorem rtot_take_le (l : List Rn) (k : Nat) : rtot (l.take k) ≤ rtot l := by
  have e := List.take_append_drop k l
  conv => rhs; rw [← e]
  unfold rtot
  rw [List.map_append, List.sum_append]
  omega
set_option maxHeartbeats 1000000 in
theorem rused_any {br : Nat} {quota now : Int} {l : List Rn} {vk vd vw : Value} {ck cd cw : Nat} (w : World) (h : RAt w br quota now l vk vd vw ck cd cw) (hlen : l.length ≤ 4096) (ht : rtot l ≤ 1000000) :
    Calls Try.prog 17 #[.pointer (some ⟨br, 0, none⟩)] w fun e w' => e = .returned (.int .i64 (rtot l)) ∧ w = w' := by
  obtain ⟨h1, h2, h3, h4, h5⟩ := h
  obtain ⟨ad, rfl⟩ := h3.form
  obtain ⟨hlt, ⟨c0, c1, c2, c3, c4⟩, f0, f1, f2, f3, f4⟩ := block_cells5 h1
  clear h1 h2 h4 h5
  go_enter Try.func17, Try.ntmps17
  go_wp2_with fail
  go_loop [3, 4] (fun n i => ∃ k : Nat, k ≤ l.length ∧ i = .int .i64 k ∧ n = .int .i64 (rtot (l.take k))) (fun _ i => l.length - (intOf i).toNat)
  case atStart => exact ⟨0, Nat.zero_le _, rfl, rfl⟩
  case round =>
    obtain ⟨k, hk, rfl, rfl⟩ := hrel
    by_cases hkl : k < l.length
    · rcases h3.2 with ⟨_, h, _⟩ | ⟨g1, cur1, hv1, _⟩
      · omega
      cases hv1
      have z0 := texts_get (k := k) h3 (by simpa using hkl)
      rw [List.getElem_map] at z0
      have HT := Lib.hid (rtot_take l k hkl)
      have hle := rtot_take_le l (k + 1)
      rw [HT.out] at hle
      generalize l[k].data = x at z0 HT hle
      have hti : (k : Int) < (l.length : Int) := by omega
      clear h3
      go_wp2_with fail
      go_round
      case rel => exact ⟨k + 1, by omega, by go_num, by rw [HT.out]; go_num⟩
      case measure => simp [intOf]; omega
    · have hke : k = l.length := by omega
      subst hke
      rw [List.take_length]
      go_wp2_with fail
      go_ret
      exact ⟨rfl, rfl⟩
end Go.Proofs.Ytlnhdfdalfoocaa
